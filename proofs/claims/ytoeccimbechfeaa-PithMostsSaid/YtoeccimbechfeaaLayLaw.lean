/- What is laid is read again; cut off, or with more behind it, it isn't whole. Plain laws over the functions of the reader. -/
import Derived.Test.YtoeccimbechfeaaReadLaw
namespace Go.Proofs.Ytoeccimbechfeaa
set_option linter.unusedVariables false

def normP (p : Part) : Part :=
  if kindZ p.k = 0 then ⟨0, (clamp p.n : Int), []⟩ else if kindZ p.k = 1 then ⟨1, 0, p.s⟩ else ⟨2, p.n % 2, []⟩

theorem numR_be6 (most : Int) (x : Nat) (s : List UInt8) (hx : x ≤ 281474976710655) :
    numR most (be6 x ++ s, false) = if (x : Int) > max most 0 then (0, ([], true)) else ((x : Int), (s, false)) := by
  have h6 := be6_length x
  have e := takeR_ok 6 (be6 x ++ s) (by rw [List.length_append, h6]; omega)
  have e1 : (be6 x ++ s).take 6 = be6 x := by rw [← h6]; exact List.take_left
  have e2 : (be6 x ++ s).drop 6 = s := by rw [← h6]; exact List.drop_left
  rw [e1, e2] at e
  simp only [numR, e, val_be6 x hx]
theorem val_be2 (n : Nat) (h : n ≤ 65535) : val (be2 n) = n := by
  have e : val (be2 n) = (UInt8.ofNat (n / 256)).toNat * 256 + (UInt8.ofNat n).toNat := by simp [val, be2]
  rw [e]
  simp
  omega
theorem textR_be2 (most : Int) (t s : List UInt8) (h : t.length ≤ 65535) :
    textR most (be2 t.length ++ t ++ s, false) = if (t.length : Int) > most then ([], ([], true)) else (t, (s, false)) := by
  have e : takeR 2 (be2 t.length ++ t ++ s, false) = (be2 t.length, (t ++ s, false)) := by
    rw [takeR_ok 2 _ (by simp [be2])]; rfl
  have hn : be2 t.length ≠ [] := by simp [be2]
  simp only [textR, e, val_be2 _ h]
  rw [if_neg hn]
  split
  · rfl
  · rw [takeR_ok _ _ (by simp), List.take_left, List.drop_left]
theorem flagR_one (n : Int) (s : List UInt8) : flagR (UInt8.ofNat (n % 2).toNat :: s, false) = (n % 2 == 1, (s, false)) := by
  have h2 : n % 2 = 0 ∨ n % 2 = 1 := by omega
  have e : takeR 1 (UInt8.ofNat (n % 2).toNat :: s, false) = ([UInt8.ofNat (n % 2).toNat], (s, false)) := takeR_ok 1 _ (by simp)
  simp only [flagR, e]
  rcases h2 with h | h <;> rw [h] <;> rfl
/-- What was laid is read again. -/
theorem readP_lay (p : Part) (s : List UInt8) (h : p.s.length ≤ 1000) : readP p.k (layP p ++ s, false) = (normP p, (s, false)) := by
  unfold readP layP normP
  rcases kindZ_cases p.k with hk | hk | hk
  · simp only [hk, if_true]
    show _ = _
    have := numR_be6 281474976710655 (clamp p.n) s (clamp_le _)
    rw [if_neg (by have := clamp_le p.n; omega)] at this
    rw [encNum, this]
  · simp only [hk, if_true, show ((1 : Int) = 0) = False by simp, if_false]
    have := textR_be2 1000 p.s s (by omega)
    rw [if_neg (by omega)] at this
    rw [this]
  · simp only [hk, show ((2 : Int) = 0) = False by simp, show ((2 : Int) = 1) = False by simp, if_false, List.singleton_append]
    rw [flagR_one]
    have h2 : p.n % 2 = 0 ∨ p.n % 2 = 1 := by omega
    rcases h2 with h | h <;> rw [h] <;> rfl
/-- Cut off within, it is an error. -/
theorem readP_cut (p : Part) (c : Nat) (hc : c < (layP p).length) (h : p.s.length ≤ 1000) : (readP p.k ((layP p).take c, false)).2 = ([], true) := by
  revert hc
  unfold readP layP
  rcases kindZ_cases p.k with hk | hk | hk
  · simp only [hk, if_true, encNum_length]
    intro hc
    simp only [numR, takeR_short 6 ((encNum p.n).take c) (by simp [encNum_length]; omega)]
    rfl
  · simp only [hk, if_true, show ((1 : Int) = 0) = False by simp, if_false]
    intro hc
    have hl : (be2 p.s.length).length = 2 := by simp [be2]
    rw [List.length_append, hl] at hc
    by_cases h2 : c < 2
    · simp only [textR, takeR_short 2 ((be2 p.s.length ++ p.s).take c) (by simp [hl]; omega)]
      rfl
    · have e0 : (be2 p.s.length ++ p.s).take c = be2 p.s.length ++ p.s.take (c - 2) := by
        rw [List.take_append, hl, List.take_of_length_le (by rw [hl]; omega)]
      have e : takeR 2 ((be2 p.s.length ++ p.s).take c, false) = (be2 p.s.length, (p.s.take (c - 2), false)) := by
        rw [e0, takeR_ok 2 _ (by simp [be2])]; rfl
      have hn : be2 p.s.length ≠ [] := by simp [be2]
      simp only [textR, e, val_be2 _ (show p.s.length ≤ 65535 by omega)]
      rw [if_neg hn, if_neg (by omega), takeR_short _ _ (by simp; omega)]
  · simp only [hk, show ((2 : Int) = 0) = False by simp, show ((2 : Int) = 1) = False by simp, if_false]
    intro hc
    obtain rfl : c = 0 := by simpa using hc
    rfl

/-- Reading all of a list's parts: what is left. -/
def readAll (ps : List Part) (st : List UInt8 × Bool) : List UInt8 × Bool := ps.foldl (fun st p => (readP p.k st).2) st
theorem readAll_snoc (ps : List Part) (p : Part) (st : List UInt8 × Bool) : readAll (ps ++ [p]) st = (readP p.k (readAll ps st)).2 := by simp [readAll]
theorem readAll_cons (ps : List Part) (p : Part) (st : List UInt8 × Bool) : readAll (p :: ps) st = readAll ps (readP p.k st).2 := rfl
theorem layAll_cons (p : Part) (ps : List Part) : layAll (p :: ps) = layP p ++ layAll ps := rfl
theorem readAll_bad (ps : List Part) : readAll ps ([], true) = ([], true) := by
  induction ps with
  | nil => rfl
  | cons p ps ih => rw [readAll_cons, readP_bad]; exact ih
theorem readAll_lay (s : List UInt8) : ∀ (ps : List Part), (∀ p ∈ ps, p.s.length ≤ 1000) → readAll ps (layAll ps ++ s, false) = (s, false)
  | [], _ => rfl
  | p :: ps, h => by
    rw [readAll_cons, layAll_cons, List.append_assoc, readP_lay p _ (h p (by simp))]
    exact readAll_lay s ps (fun q hq => h q (by simp [hq]))
theorem readAll_cut : ∀ (ps : List Part) (c : Nat), (∀ p ∈ ps, p.s.length ≤ 1000) → c < (layAll ps).length → readAll ps ((layAll ps).take c, false) = ([], true)
  | [], c, _, hc => by simp [layAll] at hc
  | p :: ps, c, h, hc => by
    rw [layAll_cons, List.length_append] at hc
    rw [readAll_cons, layAll_cons]
    by_cases hl : c < (layP p).length
    · rw [List.take_append_of_le_length (by omega), readP_cut p c hl (h p (by simp)), readAll_bad]
    · rw [List.take_append, List.take_of_length_le (by omega), readP_lay p _ (h p (by simp))]
      exact readAll_cut ps _ (fun q hq => h q (by simp [hq])) (by omega)
theorem readP_len (k : Int) (st : List UInt8 × Bool) : (readP k st).2.1.length ≤ st.1.length := by
  have t6 := take_len 6 st
  have t2 := take_len 2 st
  have t1 := take_len 1 st
  unfold readP
  split
  · simp only [numR]
    split <;> simp <;> omega
  · split
    · simp only [textR]
      split
      · exact t2.2.2
      · split
        · simp
        · have := take_len (val (takeR 2 st).1) (takeR 2 st).2
          omega
    · simp only [flagR, flagOf]
      split
      · exact t1.2.2
      · split <;> simp <;> omega
theorem readAll_len (ps : List Part) : ∀ st : List UInt8 × Bool, (readAll ps st).1.length ≤ st.1.length := by
  induction ps with
  | nil => intro st; exact Nat.le_refl _
  | cons p ps ih => intro st; rw [readAll_cons]; exact Nat.le_trans (ih _) (readP_len _ _)
theorem layP_pos (p : Part) : 0 < (layP p).length := by
  unfold layP
  split
  · rw [encNum_length]; omega
  · split
    · simp [be2]
    · simp
end Go.Proofs.Ytoeccimbechfeaa
