/- SumLong, plain: the remainder of the bits by long division is the checksum. No program in sight. -/
import Derived.Test.YtoeccimbechfeaaSumLaw
namespace Go.Proofs.Ytoeccimbechfeaa

def b01 (b : Bool) : UInt8 := if b then 1 else 0
theorem b01_xor (a b : Bool) : b01 a ^^^ b01 b = b01 (a ^^ b) := by cases a <;> cases b <;> decide
theorem b01_one (a : Bool) : b01 a ^^^ 1 = b01 (!a) := by cases a <;> decide
theorem b01_eq (a : Bool) : b01 a = 1 ↔ a = true := by cases a <;> decide
/-- Bit k of a byte. -/
def bitB (c : UInt8) (k : Nat) : UInt8 := UInt8.ofNat (c.toNat / 2 ^ k % 2)
def bitsN (c : UInt8) (n : Nat) : List UInt8 := (List.range n).map (bitB c)
def bitsS (l : List UInt8) : List UInt8 := l.flatMap fun c => bitsN c 8
theorem bitsN_length (c : UInt8) (n : Nat) : (bitsN c n).length = n := by simp [bitsN]
theorem bitsN_succ (c : UInt8) (n : Nat) : bitsN c (n + 1) = bitsN c n ++ [bitB c n] := by simp [bitsN, List.range_succ]
theorem bitsS_append (a b : List UInt8) : bitsS (a ++ b) = bitsS a ++ bitsS b := by simp [bitsS]
theorem bitsS_one (c : UInt8) : bitsS [c] = bitsN c 8 := by simp [bitsS]
theorem bitsS_length (l : List UInt8) : (bitsS l).length = 8 * l.length := by
  induction l with
  | nil => rfl
  | cons c l ih => rw [show c :: l = [c] ++ l from rfl, bitsS_append, List.length_append, ih, bitsS_one, bitsN_length]; simp; omega
def stb (x : BitVec 32) (b : UInt8) : BitVec 32 := stp (x ^^^ BitVec.ofNat 32 b.toNat)

theorem bit_split : ∀ c : Fin 256, ∀ j : Fin 8, BitVec.ofNat 32 (c.val % 2 ^ (j.val + 1)) = BitVec.ofNat 32 (c.val % 2 ^ j.val) ^^^ (BitVec.ofNat 32 (c.val / 2 ^ j.val % 2) <<< j.val) := by decide +kernel
theorem bitB_nat (c : UInt8) (j : Nat) : (bitB c j).toNat = c.toNat / 2 ^ j % 2 := by
  have : c.toNat / 2 ^ j % 2 < 2 := Nat.mod_lt _ (by omega)
  simp [bitB]; omega
theorem one_bit_high (n i : Nat) (hn : n < 2) (hi : 1 ≤ i) : (BitVec.ofNat 32 n).getLsbD i = false := by
  rcases (show n = 0 ∨ n = 1 by omega) with rfl | rfl
  · simp
  · rw [show BitVec.ofNat 32 1 = 1#32 from rfl, BitVec.getLsbD_one]
    simp; omega
theorem bits_fold (c : UInt8) (x : BitVec 32) : ∀ j, j ≤ 8 → (bitsN c j).foldl stb x = stps j (x ^^^ BitVec.ofNat 32 (c.toNat % 2 ^ j))
  | 0, _ => by simp [bitsN, stps, Nat.mod_one]
  | j + 1, h => by
    rw [bitsN_succ, List.foldl_append, bits_fold c x j (by omega)]
    show stb _ _ = stp (stps j _)
    unfold stb
    rw [bitB_nat]
    have hs := bit_split ⟨c.toNat, c.toNat_lt⟩ ⟨j, by omega⟩
    simp only at hs
    rw [hs, ← BitVec.xor_assoc, stps_xor j (x ^^^ BitVec.ofNat 32 (c.toNat % 2 ^ j)), stps_shl]
    intro i hi
    exact one_bit_high _ _ (Nat.mod_lt _ (by omega)) (by omega)
theorem byte_fold (c : UInt8) (x : BitVec 32) : (bitsN c 8).foldl stb x = byt x c := by
  rw [bits_fold c x 8 (by omega)]
  have := c.toNat_lt
  rw [Nat.mod_eq_of_lt (by omega)]; rfl
theorem bits_upd : ∀ (l : List UInt8) (x : BitVec 32), (bitsS l).foldl stb x = upd x l
  | [], x => rfl
  | c :: l, x => by
    rw [show c :: l = [c] ++ l from rfl, bitsS_append, List.foldl_append, bitsS_one, byte_fold, bits_upd l, upd_append]
    rfl

/-- A bit of the divisor, the highest first. -/
def pbit (k : Nat) : UInt8 := UInt8.ofNat (4812730177 / 2 ^ (32 - k) % 2)
theorem pbit_succ : ∀ k, k < 32 → pbit (k + 1) = b01 (poly.getLsbD k) := by decide +kernel
theorem pbit_zero : pbit 0 = 1 := by decide
def xorp (B : List UInt8) (i : Nat) : Nat → List UInt8
  | 0 => B
  | k + 1 => (xorp B i k).set (i + k) ((xorp B i k).getD (i + k) 0 ^^^ pbit k)
def rnd (B : List UInt8) (i : Nat) : List UInt8 := if B.getD i 0 = 1 then xorp B i 33 else B
def rnds (B : List UInt8) : Nat → List UInt8
  | 0 => B
  | i + 1 => rnd (rnds B i) i
def flips (B : List UInt8) : Nat → List UInt8
  | 0 => B
  | k + 1 => (flips B k).set k ((flips B k).getD k 0 ^^^ 1)
def fin32 (B : List UInt8) (n : Nat) : Nat → BitVec 32
  | 0 => 0#32
  | k + 1 => fin32 B n k ||| (BitVec.ofNat 32 ((B.getD (n + k) 0 ^^^ 1).toNat) <<< k)
theorem xorp_length (B : List UInt8) (i k : Nat) : (xorp B i k).length = B.length := by
  induction k with
  | zero => rfl
  | succ k ih => simp [xorp, ih]
theorem rnd_length (B : List UInt8) (i : Nat) : (rnd B i).length = B.length := by unfold rnd; split <;> simp [xorp_length]
theorem rnds_length (B : List UInt8) (i : Nat) : (rnds B i).length = B.length := by
  induction i with
  | zero => rfl
  | succ i ih => rw [rnds, rnd_length, ih]
theorem flips_length (B : List UInt8) (k : Nat) : (flips B k).length = B.length := by
  induction k with
  | zero => rfl
  | succ k ih => simp [flips, ih]
theorem getD_set (B : List UInt8) (i j : Nat) (v : UInt8) (hi : i < B.length) : (B.set i v).getD j 0 = if j = i then v else B.getD j 0 := by
  simp only [List.getD, List.getElem?_set]
  by_cases h : i = j
  · subst h; simp [hi]
  · rw [if_neg h, if_neg (fun e => h e.symm)]
theorem xorp_get (B : List UInt8) (i j : Nat) : ∀ k, i + k ≤ B.length → (xorp B i k).getD j 0 = if i ≤ j ∧ j < i + k then B.getD j 0 ^^^ pbit (j - i) else B.getD j 0
  | 0, _ => by rw [if_neg (by omega)]; rfl
  | k + 1, h => by
    rw [xorp, getD_set _ _ _ _ (by rw [xorp_length]; omega), xorp_get B i (i + k) k (by omega), xorp_get B i j k (by omega)]
    by_cases h1 : j = i + k
    · subst h1; rw [if_pos rfl, if_neg (by omega), if_pos (by omega), Nat.add_sub_cancel_left]
    · rw [if_neg h1]
      by_cases h2 : i ≤ j ∧ j < i + k
      · rw [if_pos h2, if_pos (by omega)]
      · rw [if_neg h2, if_neg (by omega)]
theorem flips_get (B : List UInt8) (j : Nat) : ∀ k, k ≤ B.length → (flips B k).getD j 0 = if j < k then B.getD j 0 ^^^ 1 else B.getD j 0
  | 0, _ => by rw [if_neg (by omega)]; rfl
  | k + 1, h => by
    rw [flips, getD_set _ _ _ _ (by rw [flips_length]; omega), flips_get B k k (by omega), flips_get B j k (by omega)]
    by_cases h1 : j = k
    · subst h1; rw [if_pos rfl, if_neg (by omega), if_pos (by omega)]
    · rw [if_neg h1]
      by_cases h2 : j < k
      · rw [if_pos h2, if_pos (by omega)]
      · rw [if_neg h2, if_neg (by omega)]

def stN (M : Nat → Bool) : Nat → BitVec 32
  | 0 => BitVec.allOnes 32
  | i + 1 => stp (stN M i ^^^ (if M i then 1#32 else 0#32))
theorem stN_bit (M : Nat → Bool) (i k : Nat) (hk : k < 32) : (stN M (i + 1)).getLsbD k = ((if k < 31 then (stN M i).getLsbD (k + 1) else false) ^^ (((stN M i).getLsbD 0 ^^ M i) && poly.getLsbD k)) := by
  rw [stN, stp_eq, BitVec.getLsbD_xor, BitVec.getLsbD_ushiftRight, BitVec.getLsbD_xor]
  have e1 : (if M i = true then 1#32 else 0#32).getLsbD (1 + k) = false := by
    cases M i <;> simp
  have e0 : (stN M i ^^^ if M i = true then 1#32 else 0#32).getLsbD 0 = ((stN M i).getLsbD 0 ^^ M i) := by
    rw [BitVec.getLsbD_xor]; cases M i <;> simp
  rw [e1, e0]
  have e2 : (pb ((stN M i).getLsbD 0 ^^ M i)).getLsbD k = (((stN M i).getLsbD 0 ^^ M i) && poly.getLsbD k) := by
    cases ((stN M i).getLsbD 0 ^^ M i) <;> simp [pb]
  rw [e2]
  by_cases h : k < 31
  · rw [if_pos h, Nat.add_comm 1 k]; simp
  · rw [if_neg h, BitVec.getLsbD_of_ge _ (1 + k) (by omega)]; simp

def DivInv (M : Nat → Bool) (n i : Nat) (B : List UInt8) : Prop :=
  B.length = n + 32 ∧ (∀ k, k < 32 → B.getD (i + k) 0 = b01 (M (i + k) ^^ (stN M i).getLsbD k)) ∧ ∀ j, i + 32 ≤ j → j < n + 32 → B.getD j 0 = b01 (M j)
theorem divInv_step {M : Nat → Bool} {n i : Nat} {B : List UInt8} (h : DivInv M n i B) (hi : i < n) : DivInv M n (i + 1) (rnd B i) := by
  obtain ⟨h1, h2, h3⟩ := h
  have h0 := h2 0 (by omega)
  rw [Nat.add_zero] at h0
  refine ⟨by rw [rnd_length, h1], fun k hk => ?_, fun j hj hjn => ?_⟩
  · rw [stN_bit M i k hk]
    have hb : B.getD (i + 1 + k) 0 = b01 (M (i + 1 + k) ^^ (if k < 31 then (stN M i).getLsbD (k + 1) else false)) := by
      by_cases hk2 : k < 31
      · rw [if_pos hk2, show i + 1 + k = i + (k + 1) by omega, h2 (k + 1) (by omega)]
      · rw [if_neg hk2, h3 _ (by omega) (by omega)]; simp
    unfold rnd
    rw [h0]
    by_cases ht : (M i ^^ (stN M i).getLsbD 0) = true
    · rw [if_pos ((b01_eq _).2 ht), xorp_get B i _ 33 (by omega), if_pos (by omega), hb, show i + 1 + k - i = k + 1 by omega, pbit_succ k hk, b01_xor, Bool.xor_comm ((stN M i).getLsbD 0), ht, Bool.true_and, Bool.xor_assoc]
    · have ht' : (M i ^^ (stN M i).getLsbD 0) = false := by simpa using ht
      rw [if_neg (fun h => ht ((b01_eq _).1 h)), hb, Bool.xor_comm ((stN M i).getLsbD 0), ht']
      simp
  · unfold rnd
    split
    · rw [xorp_get B i _ 33 (by omega), if_neg (by omega), h3 j (by omega) hjn]
    · exact h3 j (by omega) hjn
theorem divInv_rnds {M : Nat → Bool} {n : Nat} {B : List UInt8} (h : DivInv M n 0 B) : ∀ i, i ≤ n → DivInv M n i (rnds B i)
  | 0, _ => h
  | i + 1, hi => divInv_step (divInv_rnds h i (by omega)) (by omega)

theorem fin_bit {B : List UInt8} {n : Nat} {f : Nat → Bool} (h : ∀ k, k < 32 → B.getD (n + k) 0 = b01 (f k)) : ∀ k, k ≤ 32 → ∀ j, j < 32 → (fin32 B n k).getLsbD j = (decide (j < k) && !(f j))
  | 0, _, j, hj => by simp [fin32]
  | k + 1, hk, j, hj => by
    rw [fin32, BitVec.getLsbD_or, fin_bit h k (by omega) j hj, h k (by omega), b01_one, BitVec.getLsbD_shiftLeft]
    have hb : ∀ i, (BitVec.ofNat 32 (b01 (!(f k))).toNat).getLsbD i = (decide (i = 0) && !(f k)) := by
      intro i
      cases f k
      · show (BitVec.ofNat 32 1).getLsbD i = _
        by_cases h0 : i = 0
        · subst h0; decide
        · rw [one_bit_high 1 i (by omega) (by omega)]; simp [h0]
      · show (BitVec.ofNat 32 0).getLsbD i = _
        simp
    rw [hb]
    by_cases h1 : j < k
    · simp [h1, show j < k + 1 by omega]
    · by_cases h2 : j = k
      · subst h2; simp [hj]
      · simp [h1, show ¬ j < k + 1 by omega, show ¬ (j - k = 0) by omega]
/-- The long division, whole. -/
def longS (l : List UInt8) : BitVec 32 := fin32 (rnds (flips (bitsS l ++ List.replicate 32 0) 32) (8 * l.length)) (8 * l.length) 32

theorem bitB_01 (c : UInt8) (k : Nat) : ∃ b, bitB c k = b01 b := by
  have : c.toNat / 2 ^ k % 2 < 2 := Nat.mod_lt _ (by omega)
  rcases (show c.toNat / 2 ^ k % 2 = 0 ∨ c.toNat / 2 ^ k % 2 = 1 by omega) with h | h
  · exact ⟨false, by rw [bitB, h]; rfl⟩
  · exact ⟨true, by rw [bitB, h]; rfl⟩
theorem bitsS_01 (l : List UInt8) (j : Nat) : ∃ b, (bitsS l).getD j 0 = b01 b := by
  by_cases h : j < (bitsS l).length
  · have hm : (bitsS l).getD j 0 ∈ bitsS l := by
      rw [List.getD, List.getElem?_eq_getElem h]; exact List.getElem_mem h
    simp only [bitsS, List.mem_flatMap, bitsN, List.mem_map] at hm
    obtain ⟨c, _, k, _, hk⟩ := hm
    obtain ⟨b, hb⟩ := bitB_01 c k
    exact ⟨b, (show (bitsS l).getD j 0 = bitB c k from hk.symm).trans hb⟩
  · exact ⟨false, by rw [List.getD, List.getElem?_eq_none (by omega)]; rfl⟩
theorem stN_fold (A : List UInt8) (M : Nat → Bool) (h : ∀ j, j < A.length → A.getD j 0 = b01 (M j)) : ∀ i, i ≤ A.length → stN M i = (A.take i).foldl stb (BitVec.allOnes 32)
  | 0, _ => rfl
  | i + 1, hi => by
    have hg := h i (by omega)
    rw [List.getD, List.getElem?_eq_getElem (show i < A.length by omega)] at hg
    simp only [Option.getD_some] at hg
    rw [stN, stN_fold A M h i (by omega), List.take_succ_eq_append_getElem (show i < A.length by omega), List.foldl_append, hg]
    show _ = stb _ _
    unfold stb
    cases M i <;> rfl
theorem longS_eq (l : List UInt8) : longS l = sumOf l := by
  have hlen : (bitsS l ++ List.replicate 32 0).length = 8 * l.length + 32 := by simp [bitsS_length]
  obtain ⟨M, hM⟩ : ∃ M : Nat → Bool, ∀ j, (bitsS l).getD j 0 = b01 (M j) := ⟨fun j => Classical.choose (bitsS_01 l j), fun j => Classical.choose_spec (bitsS_01 l j)⟩
  have hM0 : ∀ j, 8 * l.length ≤ j → M j = false := by
    intro j hj
    have := hM j
    rw [List.getD, List.getElem?_eq_none (by rw [bitsS_length]; omega)] at this
    cases h : M j
    · rfl
    · rw [h] at this; exact absurd this (by decide)
  have hB : ∀ j, (bitsS l ++ List.replicate 32 0).getD j 0 = b01 (M j) := by
    intro j
    by_cases h : j < (bitsS l).length
    · rw [List.getD, List.getElem?_append_left h, ← List.getD, hM]
    · rw [hM0 j (by rw [bitsS_length] at h; omega), List.getD, List.getElem?_append_right (by omega), List.getElem?_replicate]
      split <;> rfl
  have inv0 : DivInv M (8 * l.length) 0 (flips (bitsS l ++ List.replicate 32 0) 32) := by
    refine ⟨by rw [flips_length, hlen], fun k hk => ?_, fun j hj hjn => ?_⟩
    · rw [Nat.zero_add, flips_get _ _ 32 (by omega), if_pos hk, hB]
      show _ = b01 (M k ^^ (BitVec.allOnes 32).getLsbD k)
      rw [b01_one, BitVec.getLsbD_allOnes]; simp [hk]
    · rw [flips_get _ _ 32 (by omega), if_neg (by omega), hB]
  have inv := divInv_rnds inv0 (8 * l.length) (Nat.le_refl _)
  have hfin : ∀ k, k < 32 → (rnds (flips (bitsS l ++ List.replicate 32 0) 32) (8 * l.length)).getD (8 * l.length + k) 0 = b01 ((stN M (8 * l.length)).getLsbD k) := by
    intro k hk
    rw [inv.2.1 k hk, hM0 _ (by omega)]; simp
  have e : stN M (8 * l.length) = upd (BitVec.allOnes 32) l := by
    rw [stN_fold (bitsS l) M (fun j _ => hM j) _ (by rw [bitsS_length]; omega), List.take_of_length_le (by rw [bitsS_length]; omega), bits_upd]
  apply BitVec.eq_of_getLsbD_eq
  intro j hj
  rw [longS, fin_bit hfin 32 (by omega) j hj, e]
  show _ = (~~~ (upd (~~~ 0#32) l)).getLsbD j
  rw [BitVec.getLsbD_not]
  simp [hj]
end Go.Proofs.Ytoeccimbechfeaa
