/- Plain functions of layer 2: the checksum. No program in sight. -/
namespace Go.Proofs.Ytmjgbkepngeckaa

def poly : BitVec 32 := 0x82f63b78#32
def stp (x : BitVec 32) : BitVec 32 := if x &&& 1#32 = 1#32 then (x >>> 1) ^^^ poly else x >>> 1
def stps : Nat → BitVec 32 → BitVec 32
  | 0, x => x
  | n + 1, x => stp (stps n x)
def inB (x : BitVec 32) (c : UInt8) : BitVec 32 := x ^^^ BitVec.ofNat 32 c.toNat
def byt (x : BitVec 32) (c : UInt8) : BitVec 32 := stps 8 (inB x c)
def upd (x : BitVec 32) (l : List UInt8) : BitVec 32 := l.foldl byt x
/-- The checksum s, and these bytes more. -/
def sumAdd (s : BitVec 32) (l : List UInt8) : BitVec 32 := ~~~ (upd (~~~ s) l)
def sumOf (l : List UInt8) : BitVec 32 := sumAdd 0#32 l
theorem upd_append (x : BitVec 32) (a b : List UInt8) : upd x (a ++ b) = upd (upd x a) b := by simp [upd]
theorem upd_snoc (x : BitVec 32) (a : List UInt8) (c : UInt8) : upd x (a ++ [c]) = byt (upd x a) c := by simp [upd]
theorem upd_nil (x : BitVec 32) : upd x [] = x := rfl
theorem sumAdd_append (s : BitVec 32) (a b : List UInt8) : sumAdd s (a ++ b) = sumAdd (sumAdd s a) b := by simp [sumAdd, upd_append]
theorem sumAdd_nil (s : BitVec 32) : sumAdd s [] = s := by simp [sumAdd, upd]
/-- The number of a checksum: a name of its own. -/
def u32v (x : BitVec 32) : Int := x.toNat
theorem u32v_lo (x : BitVec 32) : 0 ≤ u32v x := by unfold u32v; omega
theorem u32v_hi (x : BitVec 32) : u32v x < 4294967296 := by unfold u32v; have := x.isLt; omega
theorem u32v_inj {x y : BitVec 32} : u32v x = u32v y ↔ x = y := by
  unfold u32v
  exact ⟨fun h => BitVec.eq_of_toNat_eq (by omega), fun h => by rw [h]⟩
theorem u32v_beq (x y : BitVec 32) : (u32v x == u32v y) = (x == y) := by
  rw [Bool.eq_iff_iff, beq_iff_eq, beq_iff_eq, u32v_inj]

/-- A checksum's four bytes, the lowest first. -/
def le4 (x : BitVec 32) : List UInt8 := [UInt8.ofNat x.toNat, UInt8.ofNat (x.toNat / 256), UInt8.ofNat (x.toNat / 65536), UInt8.ofNat (x.toNat / 16777216)]
def sealB (l : List UInt8) : List UInt8 := le4 (sumOf l) ++ l
theorem le4_length (x : BitVec 32) : (le4 x).length = 4 := rfl
theorem sealB_length (l : List UInt8) : (sealB l).length = l.length + 4 := by simp [sealB, le4_length]; omega
theorem sealB_drop (l : List UInt8) : (sealB l).drop 4 = l := by simp [sealB, le4]
/-- Do these bytes open? -/
def opens (l : List UInt8) : Bool := decide (4 ≤ l.length) && (sealB (l.drop 4) == l)
def openB (l : List UInt8) : List UInt8 := if opens l then l.drop 4 else []
theorem opens_sealB (l : List UInt8) : opens (sealB l) = true := by
  simp [opens, sealB_drop, sealB_length]
theorem openB_sealB (l : List UInt8) : openB (sealB l) = l := by
  rw [openB, if_pos (opens_sealB l), sealB_drop]
end Go.Proofs.Ytmjgbkepngeckaa
