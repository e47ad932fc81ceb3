/- What is read is laid again; what is laid is read again. Plain laws over the functions of the reader. -/
import Derived.Test.YtoeccimbechfeaaLay
namespace Go.Proofs.Ytoeccimbechfeaa
set_option linter.unusedVariables false

theorem be6_val (t : List UInt8) (h : t.length = 6) : be6 (val t) = t := by
  have hv := val_lt t
  rw [h] at hv
  exact val_inj _ _ (by rw [be6_length, h]) (val_be6 _ (by omega))
theorem takeR_ok (n : Nat) (s : List UInt8) (h : n ≤ s.length) : takeR n (s, false) = (s.take n, (s.drop n, false)) := if_neg (by simp; omega)
theorem takeR_short (n : Nat) (s : List UInt8) (h : s.length < n) : takeR n (s, false) = ([], ([], true)) := if_pos (.inr h)
theorem be2_val (c d : UInt8) : be2 (val [c, d]) = [c, d] := by
  have hc := c.toNat_lt
  have hd := d.toNat_lt
  have e : val [c, d] = c.toNat * 256 + d.toNat := by simp [val]
  rw [e, be2]
  have e1 : (c.toNat * 256 + d.toNat) / 256 = c.toNat := by omega
  rw [e1]
  congr 1
  · exact UInt8.toNat_inj.1 (by simp)
  · congr 1
    refine UInt8.toNat_inj.1 ?_
    simp
theorem clamp_nat (x : Nat) (h : x ≤ 281474976710655) : clamp (x : Int) = x := by unfold clamp; omega

/-- Reading: an error, or what was read stands there in its one form. -/
theorem readP_sound (k : Int) (s : List UInt8) :
    ((readP k (s, false)).2 = ([], true)) ∨
    (∃ s', (readP k (s, false)).2 = (s', false) ∧ s = layP (readP k (s, false)).1 ++ s' ∧ (readP k (s, false)).1.s.length ≤ 1000) := by
  unfold readP
  split
  · -- a number
    by_cases h6 : s.length < 6
    · left
      simp only [numR, takeR_short 6 s h6]
      rfl
    · right
      have e := takeR_ok 6 s (by omega)
      have hl : (s.take 6).length = 6 := by simp; omega
      have hv := val_lt (s.take 6)
      rw [hl] at hv
      have hn : numR 281474976710655 (s, false) = ((val (s.take 6) : Int), (s.drop 6, false)) := by
        simp only [numR, e]
        exact if_neg (by omega)
      rw [hn]
      refine ⟨s.drop 6, rfl, ?_, by simp⟩
      have e2 : layP ⟨0, (val (s.take 6) : Int), []⟩ = s.take 6 := by
        show encNum _ = _
        rw [encNum, clamp_nat _ (by omega), be6_val _ hl]
      simp only [e2, List.take_append_drop]
  · split
    · by_cases h2 : s.length < 2
      · left
        simp only [textR, takeR_short 2 s h2]
        rfl
      · have e := takeR_ok 2 s (by omega)
        obtain ⟨c, d, r, rfl⟩ : ∃ c d r, s = c :: d :: r := by
          match s, h2 with
          | c :: d :: r, _ => exact ⟨c, d, r, rfl⟩
          | [], h => simp at h
          | [_], h => simp at h
        have e1 : takeR 2 (c :: d :: r, false) = ([c, d], (r, false)) := e
        have ht : textR 1000 (c :: d :: r, false) = if (val [c, d] : Int) > 1000 then ([], ([], true)) else takeR (val [c, d]) (r, false) := by
          simp only [textR, e1]
          rw [if_neg (by simp)]
        rw [ht]
        by_cases hm : (val [c, d] : Int) > 1000
        · left; rw [if_pos hm]
        · rw [if_neg hm]
          by_cases hk : r.length < val [c, d]
          · left; rw [takeR_short _ _ hk]
          · right
            rw [takeR_ok _ _ (by omega)]
            have hl : (r.take (val [c, d])).length = val [c, d] := by simp; omega
            refine ⟨_, rfl, ?_, by simp; omega⟩
            show c :: d :: r = (be2 (r.take (val [c, d])).length ++ r.take (val [c, d])) ++ r.drop (val [c, d])
            rw [hl, be2_val, List.append_assoc, List.take_append_drop]
            rfl
    · by_cases h1 : s.length < 1
      · left
        simp only [flagR, takeR_short 1 s h1]
        rfl
      · obtain ⟨c, r, rfl⟩ : ∃ c r, s = c :: r := by
          match s, h1 with
          | c :: r, _ => exact ⟨c, r, rfl⟩
          | [], h => simp at h
        have e1 : takeR 1 (c :: r, false) = ([c], (r, false)) := takeR_ok 1 (c :: r) (by simp)
        have hf : flagR (c :: r, false) = if c.toNat > 1 then (false, ([], true)) else (c == 1, (r, false)) := by
          simp only [flagR, e1]
          rfl
        rw [hf]
        by_cases hc : c.toNat > 1
        · left; rw [if_pos hc]
        · right
          rw [if_neg hc]
          refine ⟨r, rfl, ?_, by simp⟩
          have h01 : c = 0 ∨ c = 1 := by
            rcases (by omega : c.toNat = 0 ∨ c.toNat = 1) with h | h
            · exact .inl (UInt8.toNat_inj.1 h)
            · exact .inr (UInt8.toNat_inj.1 h)
          rcases h01 with rfl | rfl <;> rfl
end Go.Proofs.Ytoeccimbechfeaa
