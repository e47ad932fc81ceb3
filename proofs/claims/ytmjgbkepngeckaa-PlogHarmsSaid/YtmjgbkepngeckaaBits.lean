/- Bits of integers that the walk meets: masks of an int, exclusive or of bytes. -/
import Derived.Test.YtmjgbkepngeckaaBaseb
namespace Go.Proofs.Ytmjgbkepngeckaa
set_option linter.unusedVariables false

theorem i64_mask (n m : Int) (j : Nat) (hj : j ≤ 62) (hm : (BitVec.ofInt 64 m).toNat = 2 ^ j - 1) : bits .and .i64 n m = n % ((2 ^ j : Nat) : Int) := by
  have key : (BitVec.ofInt 64 n &&& BitVec.ofInt 64 m).toNat = (n % ((2 ^ 64 : Nat) : Int)).toNat % 2 ^ j := by
    rw [BitVec.toNat_and, BitVec.toNat_ofInt, hm, Nat.and_two_pow_sub_one_eq_mod]
  show IntKind.i64.wrap ((BitVec.ofInt 64 n &&& BitVec.ofInt 64 m).toNat : Nat) = n % ((2 ^ j : Nat) : Int)
  rw [key, IntKind.wrap_i64]
  have hp : 2 ^ j ≤ 2 ^ 62 := Nat.pow_le_pow_right (by decide) hj
  have hp0 : 0 < 2 ^ j := Nat.pow_pos (by decide)
  have hd : 2 ^ 64 = 2 ^ j * 2 ^ (64 - j) := by rw [← Nat.pow_add]; congr 1; omega
  have e1 : (((n % ((2 ^ 64 : Nat) : Int)).toNat % 2 ^ j : Nat) : Int) = n % ((2 ^ j : Nat) : Int) := by
    rw [Int.natCast_emod, Int.toNat_of_nonneg (Int.emod_nonneg _ (by decide))]
    rw [Int.emod_emod_of_dvd n (by rw [hd, Int.natCast_mul]; exact Int.dvd_mul_right _ _)]
  have h1 : 0 ≤ n % ((2 ^ j : Nat) : Int) := Int.emod_nonneg _ (by omega)
  have h2 : n % ((2 ^ j : Nat) : Int) < ((2 ^ j : Nat) : Int) := Int.emod_lt_of_pos _ (by omega)
  have h3 : ((2 ^ j : Nat) : Int) ≤ 4611686018427387904 := by
    have : ((2 ^ j : Nat) : Int) ≤ ((2 ^ 62 : Nat) : Int) := Int.ofNat_le.2 hp
    simpa using this
  rw [e1]
  generalize n % ((2 ^ j : Nat) : Int) = y at h1 h2
  generalize ((2 ^ j : Nat) : Int) = q at h2 h3
  omega
theorem i64_and1 (n : Int) : bits .and .i64 n 1 = n % 2 := i64_mask n 1 1 (by decide) (by decide)
theorem i64_and3 (n : Int) : bits .and .i64 n 3 = n % 4 := i64_mask n 3 2 (by decide) (by decide)
theorem i64_and7 (n : Int) : bits .and .i64 n 7 = n % 8 := i64_mask n 7 3 (by decide) (by decide)
theorem i64_and15 (n : Int) : bits .and .i64 n 15 = n % 16 := i64_mask n 15 4 (by decide) (by decide)
theorem i64_and31 (n : Int) : bits .and .i64 n 31 = n % 32 := i64_mask n 31 5 (by decide) (by decide)
theorem i64_and63 (n : Int) : bits .and .i64 n 63 = n % 64 := i64_mask n 63 6 (by decide) (by decide)
theorem i64_and255 (n : Int) : bits .and .i64 n 255 = n % 256 := i64_mask n 255 8 (by decide) (by decide)
theorem i64_and65535 (n : Int) : bits .and .i64 n 65535 = n % 65536 := i64_mask n 65535 16 (by decide) (by decide)
theorem b8_xor (x y : UInt8) : bits .xor .u8 (x.toNat : Int) (y.toNat : Int) = ((x ^^^ y).toNat : Int) := by
  have h : bits .xor .u8 (x.toNat : Int) (y.toNat : Int) = IntKind.u8.wrap ((x ^^^ y).toNat : Int) := by
    simp only [bits]
    rw [BitVec.ofInt_natCast, BitVec.ofInt_natCast]
    congr 2
    rw [UInt8.toNat_xor]
    have hx := x.toNat_lt
    have hy := y.toNat_lt
    show (BitVec.ofNat 8 x.toNat ^^^ BitVec.ofNat 8 y.toNat).toNat = _
    rw [BitVec.toNat_xor, BitVec.toNat_ofNat, BitVec.toNat_ofNat, Nat.mod_eq_of_lt hx, Nat.mod_eq_of_lt hy]
  rw [h, IntKind.wrap_u8]
  have := (x ^^^ y).toNat_lt
  omega
theorem emod_lo (z : Int) (n : Nat) : 0 ≤ z % ((n : Int) + 1) := Int.emod_nonneg _ (by omega)
theorem emod_hi (z : Int) (n : Nat) : z % ((n : Int) + 1) ≤ n := by have := Int.emod_lt_of_pos z (show (0 : Int) < (n : Int) + 1 by omega); omega
end Go.Proofs.Ytmjgbkepngeckaa
