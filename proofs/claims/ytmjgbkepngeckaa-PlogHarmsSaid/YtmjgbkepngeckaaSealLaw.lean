/- Four bytes beside one another turned: what was sealed isn't opened. No program in sight. -/
import Derived.Test.YtmjgbkepngeckaaSumLaw
namespace Go.Proofs.Ytmjgbkepngeckaa
set_option linter.unusedVariables false

def tb (T k : Nat) : UInt8 := UInt8.ofNat (T / 2 ^ (8 * k))
def mix (L : List UInt8) (at_ T : Nat) : Nat → List UInt8
  | 0 => L
  | k + 1 => (mix L at_ T k).set (at_ + k) ((mix L at_ T k).getD (at_ + k) 0 ^^^ tb T k)
theorem mix_length (L : List UInt8) (at_ T k : Nat) : (mix L at_ T k).length = L.length := by
  induction k with
  | zero => rfl
  | succ k ih => simp [mix, ih]
theorem set_off (p r : List UInt8) (k : Nat) (v : UInt8) : (p ++ r).set (p.length + k) v = p ++ r.set k v := by
  rw [List.set_append_right _ _ (by omega)]; simp
theorem getD_off (p r : List UInt8) (k : Nat) : (p ++ r).getD (p.length + k) 0 = r.getD k 0 := by
  simp [List.getD, List.getElem?_append_right]
theorem mix4 (p q : List UInt8) (a b c d : UInt8) (T : Nat) :
    mix (p ++ a :: b :: c :: d :: q) p.length T 4 = p ++ (a ^^^ tb T 0) :: (b ^^^ tb T 1) :: (c ^^^ tb T 2) :: (d ^^^ tb T 3) :: q := by
  have e1 : mix (p ++ a :: b :: c :: d :: q) p.length T 1 = p ++ (a ^^^ tb T 0) :: b :: c :: d :: q := by
    show (p ++ _).set (p.length + 0) ((p ++ _).getD (p.length + 0) 0 ^^^ _) = _
    rw [set_off, getD_off]; rfl
  have e2 : mix (p ++ a :: b :: c :: d :: q) p.length T 2 = p ++ (a ^^^ tb T 0) :: (b ^^^ tb T 1) :: c :: d :: q := by
    show (mix _ _ _ 1).set (p.length + 1) ((mix _ _ _ 1).getD (p.length + 1) 0 ^^^ _) = _
    rw [e1, set_off, getD_off]; rfl
  have e3 : mix (p ++ a :: b :: c :: d :: q) p.length T 3 = p ++ (a ^^^ tb T 0) :: (b ^^^ tb T 1) :: (c ^^^ tb T 2) :: d :: q := by
    show (mix _ _ _ 2).set (p.length + 2) ((mix _ _ _ 2).getD (p.length + 2) 0 ^^^ _) = _
    rw [e2, set_off, getD_off]; rfl
  show (mix _ _ _ 3).set (p.length + 3) ((mix _ _ _ 3).getD (p.length + 3) 0 ^^^ _) = _
  rw [e3, set_off, getD_off]; rfl
theorem xor_same {a t : UInt8} (h : a = a ^^^ t) : t = 0 := by
  have h1 : a ^^^ a = a ^^^ (a ^^^ t) := congrArg (a ^^^ ·) h
  rw [← UInt8.xor_assoc, UInt8.xor_self, UInt8.zero_xor] at h1
  exact h1.symm
theorem tb_zero (T : Nat) (h : T < 4294967296) (h0 : tb T 0 = 0) (h1 : tb T 1 = 0) (h2 : tb T 2 = 0) (h3 : tb T 3 = 0) : T = 0 := by
  have g : ∀ k, tb T k = 0 → T / 2 ^ (8 * k) % 256 = 0 := fun k hk => by
    have := congrArg UInt8.toNat hk
    simpa [tb] using this
  have g0 := g 0 h0
  have g1 := g 1 h1
  have g2 := g 2 h2
  have g3 := g 3 h3
  simp only [Nat.mul_zero, Nat.pow_zero, Nat.div_one, Nat.mul_one, show 8 * 2 = 16 by rfl, show 8 * 3 = 24 by rfl, show 2 ^ 8 = 256 by rfl, show 2 ^ 16 = 65536 by rfl, show 2 ^ 24 = 16777216 by rfl] at g0 g1 g2 g3
  omega
theorem mix_bad (s : List UInt8) (T at_ : Nat) (hT : 0 < T) (hT2 : T < 4294967296) (hs : 4 ≤ s.length) (hat : at_ = 0 ∨ (4 ≤ at_ ∧ at_ ≤ s.length)) : opens (mix (sealB s) at_ T 4) = false := by
  rcases Bool.eq_false_or_eq_true (opens (mix (sealB s) at_ T 4)) with ho | ho
  · exfalso
    simp only [opens, Bool.and_eq_true, beq_iff_eq] at ho
    have hq := ho.2
    clear ho
    rcases hat with rfl | ⟨h4, hle⟩
    · have e := mix4 [] s (UInt8.ofNat (sumOf s).toNat) (UInt8.ofNat ((sumOf s).toNat / 256)) (UInt8.ofNat ((sumOf s).toNat / 65536)) (UInt8.ofNat ((sumOf s).toNat / 16777216)) T
      have e2 : sealB s = [] ++ UInt8.ofNat (sumOf s).toNat :: UInt8.ofNat ((sumOf s).toNat / 256) :: UInt8.ofNat ((sumOf s).toNat / 65536) :: UInt8.ofNat ((sumOf s).toNat / 16777216) :: s := rfl
      rw [e2, show (0 : Nat) = ([] : List UInt8).length from rfl, e] at hq
      simp only [List.nil_append, List.drop_succ_cons, List.drop_zero] at hq
      rw [e2] at hq
      simp only [List.nil_append, List.cons.injEq, and_true] at hq
      obtain ⟨q0, q1, q2, q3⟩ := hq
      have := tb_zero T hT2 (xor_same q0) (xor_same q1) (xor_same q2) (xor_same q3)
      omega
    · obtain ⟨a, b, c, d, q, hdr⟩ : ∃ a b c d q, s.drop (at_ - 4) = a :: b :: c :: d :: q := by
        have hl : 4 ≤ (s.drop (at_ - 4)).length := by rw [List.length_drop]; omega
        match s.drop (at_ - 4), hl with
        | a :: b :: c :: d :: q, _ => exact ⟨a, b, c, d, q, rfl⟩
        | [], h => simp at h
        | [_], h => simp at h
        | [_, _], h => simp at h
        | [_, _, _], h => simp at h
      obtain ⟨p, hp⟩ : ∃ p, p = s.take (at_ - 4) := ⟨_, rfl⟩
      have hpl : p.length = at_ - 4 := by rw [hp, List.length_take]; omega
      have hsp : s = p ++ a :: b :: c :: d :: q := by rw [hp, ← hdr, List.take_append_drop]
      have e := mix4 (le4 (sumOf s) ++ p) q a b c d T
      have e2 : sealB s = (le4 (sumOf s) ++ p) ++ a :: b :: c :: d :: q := by
        rw [List.append_assoc, ← hsp]; rfl
      have hat : at_ = (le4 (sumOf s) ++ p).length := by rw [List.length_append, le4_length]; omega
      rw [e2, hat, e, List.append_assoc] at hq
      have hd : (le4 (sumOf s) ++ (p ++ (a ^^^ tb T 0) :: (b ^^^ tb T 1) :: (c ^^^ tb T 2) :: (d ^^^ tb T 3) :: q)).drop 4 = p ++ (a ^^^ tb T 0) :: (b ^^^ tb T 1) :: (c ^^^ tb T 2) :: (d ^^^ tb T 3) :: q := by
        rw [← le4_length (sumOf s)]; exact List.drop_left
      rw [hd, sealB] at hq
      have h1 := (List.append_inj hq rfl).1
      have h2 := le4_inj h1
      have h3 : sumOf (p ++ [a, b, c, d] ++ q) = sumOf (p ++ [a ^^^ tb T 0, b ^^^ tb T 1, c ^^^ tb T 2, d ^^^ tb T 3] ++ q) := by
        have g1 : p ++ [a, b, c, d] ++ q = s := by rw [hsp]; simp
        have g2 : p ++ [a ^^^ tb T 0, b ^^^ tb T 1, c ^^^ tb T 2, d ^^^ tb T 3] ++ q = p ++ (a ^^^ tb T 0) :: (b ^^^ tb T 1) :: (c ^^^ tb T 2) :: (d ^^^ tb T 3) :: q := by simp
        rw [g1, g2, h2]
      obtain ⟨q0, q1, q2, q3⟩ := sumOf_four p q _ _ _ _ _ _ _ _ h3
      have := tb_zero T hT2 (xor_same q0) (xor_same q1) (xor_same q2) (xor_same q3)
      omega
  · exact ho
end Go.Proofs.Ytmjgbkepngeckaa
