/- The reader's functions and the encodings: what was laid is read again, and what is read without an error stood there. No program in sight. -/
import Derived.Test.YtmjgbkepngeckaaReader
namespace Go.Proofs.Ytmjgbkepngeckaa
set_option linter.unusedVariables false

theorem be6_val (t : List UInt8) (h : t.length = 6) : be6 (val t) = t := by
  have hv := val_lt t
  rw [h] at hv
  exact val_inj _ _ (by rw [be6_length, h]) (val_be6 _ (by omega))
theorem takeR_ok (n : Nat) (s : List UInt8) (h : n ≤ s.length) : takeR n (s, false) = (s.take n, (s.drop n, false)) := if_neg (by simp; omega)
theorem takeR_short (n : Nat) (s : List UInt8) (h : s.length < n) : takeR n (s, false) = ([], ([], true)) := if_pos (.inr h)
theorem takeR_bad (n : Nat) : takeR n ([], true) = ([], ([], true)) := if_pos (.inl rfl)
theorem be2_val (c d : UInt8) : be2 (val [c, d]) = [c, d] := by
  have hc := c.toNat_lt
  have hd := d.toNat_lt
  have e : val [c, d] = c.toNat * 256 + d.toNat := by simp [val]
  rw [e, be2]
  have e1 : (c.toNat * 256 + d.toNat) / 256 = c.toNat := by omega
  rw [e1]
  congr 1
  · exact UInt8.toNat_inj.1 (by simp)
  · congr 1
    refine UInt8.toNat_inj.1 ?_
    simp
theorem clamp_nat (x : Nat) (h : x ≤ 281474976710655) : clamp (x : Int) = x := by unfold clamp; omega
theorem clamp_in (n : Int) (h0 : 0 ≤ n) (h : n ≤ 281474976710655) : (clamp n : Int) = n := by unfold clamp; omega
theorem numR_be6 (most : Int) (x : Nat) (s : List UInt8) (hx : x ≤ 281474976710655) :
    numR most (be6 x ++ s, false) = if (x : Int) > max most 0 then (0, ([], true)) else ((x : Int), (s, false)) := by
  have h6 := be6_length x
  have e := takeR_ok 6 (be6 x ++ s) (by rw [List.length_append, h6]; omega)
  have e1 : (be6 x ++ s).take 6 = be6 x := by rw [← h6]; exact List.take_left
  have e2 : (be6 x ++ s).drop 6 = s := by rw [← h6]; exact List.drop_left
  rw [e1, e2] at e
  simp only [numR, e, val_be6 x hx]
theorem val_be2 (n : Nat) (h : n ≤ 65535) : val (be2 n) = n := by
  have e : val (be2 n) = (UInt8.ofNat (n / 256)).toNat * 256 + (UInt8.ofNat n).toNat := by simp [val, be2]
  rw [e]
  simp
  omega
theorem textR_be2 (most : Int) (t s : List UInt8) (h : t.length ≤ 65535) :
    textR most (be2 t.length ++ t ++ s, false) = if (t.length : Int) > most then ([], ([], true)) else (t, (s, false)) := by
  have e : takeR 2 (be2 t.length ++ t ++ s, false) = (be2 t.length, (t ++ s, false)) := by
    rw [takeR_ok 2 _ (by simp [be2])]; rfl
  have hn : be2 t.length ≠ [] := by simp [be2]
  simp only [textR, e, val_be2 _ h]
  rw [if_neg hn]
  split
  · rfl
  · rw [takeR_ok _ _ (by simp), List.take_left, List.drop_left]

theorem numR_bad (most : Int) : numR most ([], true) = (0, ([], true)) := by
  rw [numR, takeR_bad]
  exact if_neg (by show ¬ ((0 : Int) > max most 0); omega)
theorem numR_enc (most n : Int) (s : List UInt8) (h0 : 0 ≤ n) (h : n ≤ most) (hm : most ≤ 281474976710655) : numR most (encNum n ++ s, false) = (n, (s, false)) := by
  rw [encNum, numR_be6 _ _ _ (clamp_le n), clamp_in n h0 (by omega), if_neg (by omega)]
/-- A number was read, or there was an error. -/
theorem numR_sound (most : Int) (s : List UInt8) (hm : most ≤ 281474976710655) :
    (numR most (s, false)).2 = ([], true) ∧ (numR most (s, false)).1 = 0 ∨ ∃ s', numR most (s, false) = ((numR most (s, false)).1, (s', false)) ∧ s = encNum (numR most (s, false)).1 ++ s' ∧ 0 ≤ (numR most (s, false)).1 ∧ (numR most (s, false)).1 ≤ max most 0 := by
  by_cases h6 : s.length < 6
  · left
    rw [numR, takeR_short 6 s h6]
    rw [if_neg (by show ¬ ((0 : Int) > max most 0); omega)]
    exact ⟨rfl, rfl⟩
  · have e := takeR_ok 6 s (by omega)
    have hl : (s.take 6).length = 6 := by simp; omega
    have hv := val_lt (s.take 6)
    rw [hl] at hv
    by_cases hb : (val (s.take 6) : Int) > max most 0
    · left
      rw [numR, e, if_pos hb]
      exact ⟨rfl, rfl⟩
    · right
      have hn : numR most (s, false) = ((val (s.take 6) : Int), (s.drop 6, false)) := by
        rw [numR, e, if_neg hb]
      rw [hn]
      refine ⟨s.drop 6, rfl, ?_, by simp, by simp only; omega⟩
      rw [encNum, clamp_nat _ (by omega), be6_val _ hl, List.take_append_drop]
theorem textR_bad (most : Int) : textR most ([], true) = ([], ([], true)) := by
  rw [textR, takeR_bad]; rfl
theorem encText_short (t : List UInt8) (h : t.length ≤ 65535) : encText t = be2 t.length ++ t := by
  have e : cut16 t = t := List.take_of_length_le h
  rw [encText, e]
theorem textR_enc (most : Int) (t s : List UInt8) (h : (t.length : Int) ≤ most) (h6 : t.length ≤ 65535) : textR most (encText t ++ s, false) = (t, (s, false)) := by
  rw [encText_short t h6, textR_be2 _ _ _ h6, if_neg (by omega)]
theorem textR_sound (most : Int) (s : List UInt8) (hm : most ≤ 65535) :
    (textR most (s, false)).2 = ([], true) ∧ (textR most (s, false)).1 = [] ∨ ∃ s', textR most (s, false) = ((textR most (s, false)).1, (s', false)) ∧ s = encText (textR most (s, false)).1 ++ s' ∧ ((textR most (s, false)).1.length : Int) ≤ most := by
  by_cases h2 : s.length < 2
  · left
    rw [textR, takeR_short 2 s h2, if_pos rfl]
    exact ⟨rfl, rfl⟩
  · have e := takeR_ok 2 s (by omega)
    obtain ⟨c, d, r, rfl⟩ : ∃ c d r, s = c :: d :: r := by
      match s, h2 with
      | c :: d :: r, _ => exact ⟨c, d, r, rfl⟩
      | [], h => simp at h
      | [_], h => simp at h
    have e1 : takeR 2 (c :: d :: r, false) = ([c, d], (r, false)) := e
    have ht : textR most (c :: d :: r, false) = if (val [c, d] : Int) > most then ([], ([], true)) else takeR (val [c, d]) (r, false) := by
      simp only [textR, e1]
      rw [if_neg (by simp)]
    rw [ht]
    by_cases hb : (val [c, d] : Int) > most
    · left; rw [if_pos hb]; exact ⟨rfl, rfl⟩
    · rw [if_neg hb]
      by_cases hk : r.length < val [c, d]
      · left; rw [takeR_short _ _ hk]; exact ⟨rfl, rfl⟩
      · right
        rw [takeR_ok _ _ (by omega)]
        have hl : (r.take (val [c, d])).length = val [c, d] := by simp; omega
        refine ⟨_, rfl, ?_, by simp only; omega⟩
        show c :: d :: r = encText (r.take (val [c, d])) ++ r.drop (val [c, d])
        rw [encText_short _ (by omega), hl, be2_val, List.append_assoc, List.take_append_drop]
        rfl
theorem doneR_iff (st : List UInt8 × Bool) : doneR st = 0 ↔ st = ([], false) := by
  obtain ⟨s, b⟩ := st
  unfold doneR
  split
  · rename_i h; simp only at h; exact ⟨fun _ => by rw [h.1, h.2], fun _ => rfl⟩
  · rename_i h
    constructor
    · intro h'; cases h'
    · intro h'; cases h'; exact absurd ⟨rfl, rfl⟩ h
theorem doneR_bad : doneR ([], true) = 2 := rfl
theorem doneR_cases (st : List UInt8 × Bool) : doneR st = 0 ∨ doneR st = 2 := by unfold doneR; split <;> simp
theorem encText_le2 (t : List UInt8) (h : t.length ≤ 65535) : (encText t).length = t.length + 2 := by rw [encText_short t h]; simp [be2]
end Go.Proofs.Ytmjgbkepngeckaa
