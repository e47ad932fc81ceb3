/- PithOrders: the encodings of two numbers sort as the numbers do. -/
import Derived.Test.YtoeccimbechfeaaHead1
namespace Go.Proofs.Ytoeccimbechfeaa
open Go.RowKit
set_option linter.unusedVariables false
attribute [local go_sem high] run_max2 run_min2

theorem bytesLess_val : ∀ (x y : List UInt8), x.length = y.length → Op.bytesLess x y = decide (val x < val y) := by
  intro x
  induction x with
  | nil => intro y h; cases y with | nil => simp [Op.bytesLess, val] | cons _ _ => simp at h
  | cons a x ih =>
    intro y h
    cases y with
    | nil => simp at h
    | cons b y =>
      have hl : x.length = y.length := by simpa using h
      rw [Op.bytesLess, ih y hl, val_cons, val_cons, hl]
      have h1 := val_lt x
      have h2 := val_lt y
      rw [hl] at h1
      rw [Bool.eq_iff_iff]
      simp only [Bool.or_eq_true, Bool.and_eq_true, decide_eq_true_eq, beq_iff_eq, UInt8.lt_iff_toNat_lt]
      rcases Nat.lt_trichotomy a.toNat b.toNat with hab | hab | hab
      · have : (a.toNat + 1) * 256 ^ y.length ≤ b.toNat * 256 ^ y.length := Nat.mul_le_mul_right _ hab
        rw [Nat.add_mul, Nat.one_mul] at this
        exact ⟨fun _ => by omega, fun _ => .inl hab⟩
      · have he : a = b := UInt8.toNat_inj.1 hab
        subst he
        exact ⟨fun h => by rcases h with h | h <;> omega, fun h => .inr ⟨rfl, by omega⟩⟩
      · have : (b.toNat + 1) * 256 ^ y.length ≤ a.toNat * 256 ^ y.length := Nat.mul_le_mul_right _ hab
        rw [Nat.add_mul, Nat.one_mul] at this
        exact ⟨fun h => by rcases h with h | ⟨h, _⟩; omega; exact absurd (congrArg UInt8.toNat h) (by omega), fun h => by omega⟩
theorem encNum_less (a b : Int) : Op.bytesLess (encNum a) (encNum b) = decide (min (max a 0) 281474976710655 < min (max b 0) 281474976710655) := by
  have ha := clamp_cast a
  have hb := clamp_cast b
  rw [bytesLess_val _ _ (by rw [encNum_length, encNum_length]), encNum, encNum, val_be6 _ (clamp_le a), val_be6 _ (clamp_le b)]
  rw [Bool.eq_iff_iff, decide_eq_true_eq, decide_eq_true_eq]
  omega
theorem encNum_same (a b : Int) : (encNum a == encNum b) = (min (max a 0) 281474976710655 == min (max b 0) 281474976710655) := by
  have ha := clamp_cast a
  have hb := clamp_cast b
  rw [Bool.eq_iff_iff, beq_iff_eq, beq_iff_eq, encNum, encNum, be6_inj (clamp_le a) (clamp_le b)]
  omega

set_option maxHeartbeats 400000 in
theorem orders_any (a : Int) (_ : -9223372036854775808 ≤ a ∧ a ≤ 9223372036854775807) (b : Int) (_ : -9223372036854775808 ≤ b ∧ b ≤ 9223372036854775807) (w : World) :
    Calls Try.prog 3 #[.int .i64 a, .int .i64 b] w fun e w' => e = .returned (.bool true) ∧ Ext [] w w' := by
  go_enter Try.func3, Try.ntmps3
  go_wp2_with fail
  refine (head1_any _).mono ?_
  rintro e w1 ⟨rfl, hx1⟩
  go_wp2_with fail
  refine (num_any _ [] _ _ _ [a] _ (by omega) (by simp) (OwnB.nil _) (Rd.ints1 a) (by simp [vblocks])).mono ?_
  rintro e w2 ⟨v2, rfl, ho2, hx2, _⟩
  rw [List.nil_append, encNums_one] at ho2
  have hx2' : Ext [] w w2 := (hx1.alloc _).then0 hx2
  clear hx1 hx2
  have hs2 := ho2.str
  go_wp2_with fail
  refine (num_any _ [] _ _ _ [b] _ (by omega) (by simp) (OwnB.nil _) (Rd.ints1 b) (by simp [vblocks])).mono ?_
  rintro e w3 ⟨v3, rfl, ho3, hx3, _⟩
  rw [List.nil_append, encNums_one] at ho3
  have hx3' : Ext [] w w3 := (hx2'.alloc _).then0 hx3
  clear hx2' hx3 ho2 hs2
  have hs3 := ho3.str
  have hl : (encNum a).length = 6 := encNum_length a
  have h1 := encNum_less a b
  have h2 := encNum_same a b
  clear ho3
  go_wp2
  go_ret
  exact ⟨rfl, hx3'⟩
end Go.Proofs.Ytoeccimbechfeaa
