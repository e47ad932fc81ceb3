/- Plain functions of layer 4: a block's rec. No program in sight. -/
import Derived.Test.YtmjgbkepngeckaaRdLaw
import Derived.Test.YtmjgbkepngeckaaSumPlain
namespace Go.Proofs.Ytmjgbkepngeckaa
set_option linter.unusedVariables false

structure Rc where
  kind : Int
  idx : Int
  term : Int
  data : List UInt8
  deriving DecidableEq
def Rc.zero : Rc := ⟨0, 0, 0, []⟩
def most48 : Int := 281474976710655
def Rc.right (r : Rc) : Prop := 0 ≤ r.kind ∧ 0 ≤ r.idx ∧ 0 ≤ r.term ∧ r.kind ≤ 281474976710655 ∧ r.idx ≤ 281474976710655 ∧ r.term ≤ 281474976710655
instance (r : Rc) : Decidable r.right := inferInstanceAs (Decidable (_ ∧ _))
def recB (r : Rc) : List UInt8 := encNums [r.kind, r.idx, r.term] ++ encText r.data
def putE (r : Rc) : Int := if ¬ r.right then 1 else if 488 < r.data.length then 3 else 0
def putV (r : Rc) : List UInt8 := if putE r = 0 then sealB (recB r) else []
/-- What a sealed text's bytes read as, and what is left. -/
def readRc (t : List UInt8) : Rc × (List UInt8 × Bool) :=
  let a := numR 281474976710655 (t, false)
  let b := numR 281474976710655 a.2
  let c := numR 281474976710655 b.2
  let d := textR 488 c.2
  (⟨a.1, b.1, c.1, d.1⟩, d.2)
/-- 0: empty, 1: good, 2: bad. -/
def getS (s : List UInt8) : Int := if s = [] then 0 else if opens s = true ∧ doneR (readRc (openB s)).2 = 0 then 1 else 2
def getR (s : List UInt8) : Rc := if getS s = 1 then (readRc (openB s)).1 else Rc.zero

theorem getS_cases (s : List UInt8) : getS s = 0 ∨ getS s = 1 ∨ getS s = 2 := by
  unfold getS; split
  · simp
  · split <;> simp
theorem recB_le (r : Rc) (h : r.data.length ≤ 488) : (recB r).length = r.data.length + 20 := by
  unfold recB
  rw [List.length_append, encNums_length, encText_le2 _ (by omega)]; simp; omega
theorem putE_ok {r : Rc} (h : putE r = 0) : r.right ∧ r.data.length ≤ 488 := by
  unfold putE at h
  split at h
  · cases h
  · rename_i h1
    split at h
    · cases h
    · exact ⟨Decidable.not_not.1 h1, by omega⟩
theorem putE_zero {r : Rc} (h : r.right) (h2 : r.data.length ≤ 488) : putE r = 0 := by
  rw [putE, if_neg (by simpa using h), if_neg (by omega)]
theorem putE_cases (r : Rc) : putE r = 0 ∨ putE r = 1 ∨ putE r = 3 := by
  unfold putE; split
  · simp
  · split <;> simp
theorem putV_le (r : Rc) : (putV r).length ≤ 512 := by
  unfold putV
  split
  · rename_i h
    rw [sealB_length, recB_le r (putE_ok h).2]
    have := (putE_ok h).2
    omega
  · simp
theorem putV_ne {r : Rc} (h : putE r = 0) : putV r ≠ [] := by
  intro e
  have := congrArg List.length e
  rw [putV, if_pos h, sealB_length] at this
  simp at this
theorem readRc_recB (r : Rc) (h : r.right) (h2 : r.data.length ≤ 488) (s : List UInt8) : readRc (recB r ++ s) = (r, (s, false)) := by
  obtain ⟨a0, b0, c0, a1, b1, c1⟩ := h
  have e : recB r ++ s = encNum r.kind ++ (encNum r.idx ++ (encNum r.term ++ (encText r.data ++ s))) := by
    simp [recB, encNums]
  unfold readRc
  rw [e]
  simp only [numR_enc _ _ _ a0 a1 (by omega), numR_enc _ _ _ b0 b1 (by omega), numR_enc _ _ _ c0 c1 (by omega), textR_enc _ _ _ (show (r.data.length : Int) ≤ 488 by omega) (by omega)]
theorem get_put {r : Rc} (h : putE r = 0) : getS (putV r) = 1 ∧ getR (putV r) = r := by
  obtain ⟨h1, h2⟩ := putE_ok h
  have e := readRc_recB r h1 h2 []
  rw [List.append_nil] at e
  have hv : putV r = sealB (recB r) := if_pos h
  have hs : getS (putV r) = 1 := by
    rw [getS, if_neg (putV_ne h), hv, if_pos]
    exact ⟨opens_sealB _, by rw [openB_sealB, e]; rfl⟩
  refine ⟨hs, ?_⟩
  rw [getR, if_pos hs, hv, openB_sealB, e]
/-- What reads as good was put. -/
theorem put_get {s : List UInt8} (h : getS s = 1) : putE (getR s) = 0 ∧ putV (getR s) = s := by
  have hr : getR s = (readRc (openB s)).1 := if_pos h
  unfold getS at h
  split at h
  · cases h
  · split at h
    · rename_i h2
      obtain ⟨h3, h4⟩ := h2
      have hse : sealB (openB s) = s := by
        unfold opens at h3
        rw [Bool.and_eq_true, beq_iff_eq] at h3
        rw [openB, if_pos (by unfold opens; rw [Bool.and_eq_true, beq_iff_eq]; exact h3)]
        exact h3.2
      rw [doneR_iff] at h4
      rw [hr]
      generalize openB s = t at *
      unfold readRc at h4 ⊢
      simp only at h4 ⊢
      rcases numR_sound 281474976710655 t (by omega) with ⟨b1, _⟩ | ⟨s1, e1, q1, l1, m1⟩
      · rw [b1, numR_bad, numR_bad, textR_bad] at h4; cases h4
      · rw [e1] at h4 ⊢
        generalize (numR 281474976710655 (t, false)).1 = x1 at *
        simp only at h4 ⊢
        rcases numR_sound 281474976710655 s1 (by omega) with ⟨b1, _⟩ | ⟨s2, e2, q2, l2, m2⟩
        · rw [b1, numR_bad, textR_bad] at h4; cases h4
        · rw [e2] at h4 ⊢
          generalize (numR 281474976710655 (s1, false)).1 = x2 at *
          simp only at h4 ⊢
          rcases numR_sound 281474976710655 s2 (by omega) with ⟨b1, _⟩ | ⟨s3, e3, q3, l3, m3⟩
          · rw [b1, textR_bad] at h4; cases h4
          · rw [e3] at h4 ⊢
            generalize (numR 281474976710655 (s2, false)).1 = x3 at *
            simp only at h4 ⊢
            rcases textR_sound 488 s3 (by omega) with ⟨b1, _⟩ | ⟨s4, e4, q4, l4⟩
            · rw [b1] at h4; cases h4
            · rw [e4] at h4 ⊢
              generalize (textR 488 (s3, false)).1 = x4 at *
              simp only at h4 ⊢
              obtain rfl : s4 = [] := by simpa using h4
              have hp : putE ⟨x1, x2, x3, x4⟩ = 0 := putE_zero ⟨l1, l2, l3, by simp only; omega, by simp only; omega, by simp only; omega⟩ (by simp only; omega)
              refine ⟨hp, ?_⟩
              rw [putV, if_pos hp]
              have : recB ⟨x1, x2, x3, x4⟩ = t := by
                rw [q1, q2, q3, q4]
                simp [recB, encNums]
              rw [this, hse]
    · cases h
theorem put_inj {a b : Rc} (ha : putE a = 0) (hb : putE b = 0) : putV a = putV b ↔ a = b := by
  constructor
  · intro h
    rw [← (get_put ha).2, ← (get_put hb).2, h]
  · intro h; rw [h]
theorem getR_zero {s : List UInt8} (h : getS s ≠ 1) : getR s = Rc.zero := if_neg h
theorem getS_nil : getS [] = 0 := rfl
end Go.Proofs.Ytmjgbkepngeckaa
