/- Plain functions: how numbers, texts and flags are laid as bytes. No program in sight. -/
namespace Go.Proofs.Ytmjgbkepngeckaa

/-- A number within 0 .. 2^48 - 1. -/
def clamp (n : Int) : Nat := (min (max n 0) 281474976710655).toNat
def be6 (x : Nat) : List UInt8 := (List.range 6).map fun j => UInt8.ofNat (x / 2 ^ (40 - 8 * j))
def encNum (n : Int) : List UInt8 := be6 (clamp n)
def encNums (ns : List Int) : List UInt8 := ns.flatMap encNum
def cut16 (s : List UInt8) : List UInt8 := s.take 65535
def be2 (x : Nat) : List UInt8 := [UInt8.ofNat (x / 256), UInt8.ofNat x]
def encText (s : List UInt8) : List UInt8 := be2 (cut16 s).length ++ cut16 s
def encTexts (l : List (List UInt8)) : List UInt8 := l.flatMap encText
def encFlag (b : Bool) : List UInt8 := [if b then 1 else 0]
def encFlags (l : List Bool) : List UInt8 := l.flatMap encFlag

theorem clamp_le (n : Int) : clamp n ≤ 281474976710655 := by unfold clamp; omega
theorem clamp_cast (n : Int) : (clamp n : Int) = min (max n 0) 281474976710655 := by unfold clamp; omega
theorem be6_length (x : Nat) : (be6 x).length = 6 := by simp [be6]
theorem encNum_length (n : Int) : (encNum n).length = 6 := be6_length _
theorem encNums_length (ns : List Int) : (encNums ns).length = 6 * ns.length := by
  induction ns with
  | nil => rfl
  | cons n ns ih => simp only [encNums, List.flatMap_cons, List.length_append, encNum_length, List.length_cons] at *; omega
theorem encNums_append (a b : List Int) : encNums (a ++ b) = encNums a ++ encNums b := by simp [encNums]
theorem encNums_one (n : Int) : encNums [n] = encNum n := by simp [encNums]
theorem cut16_le (s : List UInt8) : (cut16 s).length ≤ 65535 := by simp [cut16]; omega
theorem encText_le (s : List UInt8) : (encText s).length ≤ 65537 := by have := cut16_le s; simp [encText, be2]; omega
theorem encTexts_le (l : List (List UInt8)) : (encTexts l).length ≤ 65537 * l.length := by
  induction l with
  | nil => simp [encTexts]
  | cons t l ih => have := encText_le t; simp only [encTexts, List.flatMap_cons, List.length_append, List.length_cons] at *; omega
theorem encTexts_append (a b : List (List UInt8)) : encTexts (a ++ b) = encTexts a ++ encTexts b := by simp [encTexts]
theorem encTexts_one (s : List UInt8) : encTexts [s] = encText s := by simp [encTexts]
theorem encFlags_append (a b : List Bool) : encFlags (a ++ b) = encFlags a ++ encFlags b := by simp [encFlags]
theorem encFlags_one (b : Bool) : encFlags [b] = encFlag b := by simp [encFlags]
theorem encFlags_length (l : List Bool) : (encFlags l).length = l.length := by
  induction l with
  | nil => rfl
  | cons b l ih => simp only [encFlags, encFlag, List.flatMap_cons, List.length_append, List.length_cons, List.length_nil] at *; omega
theorem be6_take_succ (x j : Nat) (h : j < 6) : (be6 x).take (j + 1) = (be6 x).take j ++ [UInt8.ofNat (x / 2 ^ (40 - 8 * j))] := by
  rw [List.take_succ_eq_append_getElem (by rw [be6_length]; exact h)]
  simp [be6]
theorem ofNat_toNat_int (y : Nat) : ((UInt8.ofNat y).toNat : Int) = (y : Int) % 256 := by
  simp
theorem take_succ_get {α : Type} [Inhabited α] (l : List α) (k : Nat) (d : α) (h : k < l.length) : l.take (k + 1) = l.take k ++ [l.getD k d] := by
  rw [List.take_succ_eq_append_getElem h]
  simp [List.getD, h]

/-- The number that bytes are, the highest first. -/
def val (l : List UInt8) : Nat := l.foldl (fun x c => x * 256 + c.toNat) 0
theorem val_foldl (l : List UInt8) : ∀ a : Nat, l.foldl (fun x c => x * 256 + c.toNat) a = a * 256 ^ l.length + val l := by
  induction l with
  | nil => intro a; simp [val]
  | cons c l ih =>
    intro a
    have h0 := ih (0 * 256 + c.toNat)
    have h1 := ih (a * 256 + c.toNat)
    simp only [List.foldl_cons, List.length_cons, Nat.pow_succ] at *
    have e : val (c :: l) = (0 * 256 + c.toNat) * 256 ^ l.length + val l := by rw [← h0]; rfl
    rw [h1, e, Nat.zero_mul, Nat.zero_add, Nat.add_mul, Nat.add_assoc, Nat.mul_assoc, Nat.mul_comm 256]
theorem val_cons (c : UInt8) (l : List UInt8) : val (c :: l) = c.toNat * 256 ^ l.length + val l := by
  have h := val_foldl l c.toNat
  rw [← h]
  simp [val]
theorem val_snoc (l : List UInt8) (c : UInt8) : val (l ++ [c]) = val l * 256 + c.toNat := by simp [val]
theorem val_lt (l : List UInt8) : val l < 256 ^ l.length := by
  induction l with
  | nil => simp [val]
  | cons c l ih =>
    rw [val_cons, List.length_cons, Nat.pow_succ]
    have hc : c.toNat < 256 := c.toNat_lt
    have : (c.toNat + 1) * 256 ^ l.length ≤ 256 * 256 ^ l.length := Nat.mul_le_mul_right _ hc
    rw [Nat.add_mul, Nat.one_mul] at this
    rw [Nat.mul_comm (256 ^ l.length)]
    omega
theorem be6_eq (x : Nat) : be6 x = [UInt8.ofNat (x / 2 ^ 40), UInt8.ofNat (x / 2 ^ 32), UInt8.ofNat (x / 2 ^ 24), UInt8.ofNat (x / 2 ^ 16), UInt8.ofNat (x / 2 ^ 8), UInt8.ofNat (x / 2 ^ 0)] := rfl
theorem val_be6 (x : Nat) (h : x ≤ 281474976710655) : val (be6 x) = x := by
  rw [be6_eq]
  simp only [val, List.foldl_cons, List.foldl_nil, UInt8.toNat_ofNat']
  omega
theorem val_inj : ∀ (x y : List UInt8), x.length = y.length → val x = val y → x = y := by
  intro x
  induction x with
  | nil => intro y h _; cases y with | nil => rfl | cons _ _ => simp at h
  | cons a x ih =>
    intro y h hv
    cases y with
    | nil => simp at h
    | cons b y =>
      have hl : x.length = y.length := by simpa using h
      rw [val_cons, val_cons, hl] at hv
      have h1 := val_lt x
      have h2 := val_lt y
      rw [hl] at h1
      have hp : 0 < 256 ^ y.length := Nat.pow_pos (by decide)
      have hab : a.toNat = b.toNat := by
        have e1 : (a.toNat * 256 ^ y.length + val x) / 256 ^ y.length = a.toNat := by
          rw [Nat.mul_comm, Nat.mul_add_div hp, Nat.div_eq_of_lt h1]; omega
        have e2 : (b.toNat * 256 ^ y.length + val y) / 256 ^ y.length = b.toNat := by
          rw [Nat.mul_comm, Nat.mul_add_div hp, Nat.div_eq_of_lt h2]; omega
        rw [← e1, ← e2, hv]
      rw [hab] at hv
      have := ih y hl (by omega)
      rw [this, UInt8.toNat_inj.1 hab]
theorem be6_inj {x y : Nat} (hx : x ≤ 281474976710655) (hy : y ≤ 281474976710655) : be6 x = be6 y ↔ x = y :=
  ⟨fun h => by rw [← val_be6 x hx, ← val_be6 y hy, h], fun h => by rw [h]⟩
end Go.Proofs.Ytmjgbkepngeckaa
