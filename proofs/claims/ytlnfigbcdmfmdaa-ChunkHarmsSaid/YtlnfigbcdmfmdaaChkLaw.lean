/- Plain functions of layer 7: a text's pieces, a snapshot's list, as a block's rec and back. No program in sight. -/
import Derived.Test.YtlnfigbcdmfmdaaWr
namespace Go.Proofs.Ytlnfigbcdmfmdaa
set_option linter.unusedVariables false
set_option linter.unusedSimpArgs false

/-- The pieces of a text. -/
def cutL (l : List UInt8) : List (List UInt8) := (List.range ((l.length + 399) / 400)).map fun j => (l.drop (400 * j)).take 400
theorem cutL_length (l : List UInt8) : (cutL l).length = (l.length + 399) / 400 := by simp [cutL]
theorem cutL_get (l : List UInt8) (j : Nat) (hj : j < (cutL l).length) : (cutL l)[j] = (l.drop (400 * j)).take 400 := by simp [cutL]
theorem cutL_take_flat (l : List UInt8) : ∀ k : Nat, ((List.range k).map fun j => (l.drop (400 * j)).take 400).flatten = l.take (400 * k)
  | 0 => by simp
  | k + 1 => by
    rw [List.range_succ, List.map_append, List.flatten_append, cutL_take_flat l k]
    simp only [List.map_cons, List.map_nil, List.flatten_cons, List.flatten_nil, List.append_nil]
    rw [show 400 * (k + 1) = 400 * k + 400 by omega, List.take_add]
theorem cutL_flat (l : List UInt8) : (cutL l).flatten = l := by
  unfold cutL
  rw [cutL_take_flat, List.take_of_length_le (by omega)]
theorem cutL_piece (l : List UInt8) (j : Nat) (hj : j < (cutL l).length) : ((cutL l)[j].length : Int) = min 400 ((l.length : Int) - 400 * j) ∧ 0 < (cutL l)[j].length ∧ (cutL l)[j].length ≤ 400 ∧ (j + 1 < (cutL l).length → (cutL l)[j].length = 400) := by
  have h2 := hj
  rw [cutL_length] at h2
  rw [cutL_get, List.length_take, List.length_drop, cutL_length]
  omega
theorem cutL_nil : cutL [] = [] := rfl
theorem cutL_take_succ (l : List UInt8) (k : Nat) (hk : k < (cutL l).length) : ((cutL l).take (k + 1)) = (cutL l).take k ++ [(l.drop (400 * k)).take 400] := by
  rw [List.take_succ_eq_append_getElem hk, cutL_get]

structure Ls where
  idx : Int
  term : Int
  bytes : Int
  sums : List (BitVec 32)
  deriving DecidableEq
def Ls.zero : Ls := ⟨0, 0, 0, []⟩
def ofL (i t : Int) (d : List UInt8) : Ls := ⟨i, t, d.length, (cutL d).map sumOf⟩
def Ls.right (l : Ls) : Prop := 1 ≤ l.idx ∧ l.idx ≤ 1099511627776 ∧ 1 ≤ l.term ∧ l.term ≤ 1099511627776 ∧ 0 ≤ l.bytes ∧ l.sums.length ≤ 64 ∧ (l.sums.length : Int) = (l.bytes + 399) / 400
instance (l : Ls) : Decidable l.right := inferInstanceAs (Decidable (_ ∧ _))
theorem ofL_right (i t : Int) (d : List UInt8) : (ofL i t d).right ↔ (1 ≤ i ∧ i ≤ 1099511627776 ∧ 1 ≤ t ∧ t ≤ 1099511627776 ∧ d.length ≤ 25600) := by
  unfold Ls.right ofL
  simp only [List.length_map, cutL_length]
  omega
def recL (l : Ls) : Rc := ⟨4, l.idx, l.term, encNums [l.bytes, l.sums.length] ++ encNums (l.sums.map u32v)⟩
theorem recL_put {l : Ls} (h : l.right) : putE (recL l) = 0 := by
  obtain ⟨h1, h2, h3, h4, h5, h6, h7⟩ := h
  refine putE_zero ⟨by simp [recL], by simp only [recL]; omega, by simp only [recL]; omega, by simp [recL], by simp only [recL]; omega, by simp only [recL]; omega⟩ ?_
  show (encNums [l.bytes, l.sums.length] ++ encNums (l.sums.map u32v)).length ≤ 488
  rw [List.length_append, encNums_length, encNums_length]
  simp only [List.length_cons, List.length_nil, List.length_map]
  omega
/-- So many checksums, read. -/
def numsR : Nat → (List UInt8 × Bool) → List (BitVec 32) × (List UInt8 × Bool)
  | 0, st => ([], st)
  | n + 1, st => (BitVec.ofInt 32 (numR 4294967295 st).1 :: (numsR n (numR 4294967295 st).2).1, (numsR n (numR 4294967295 st).2).2)
theorem numsR_snoc : ∀ (n : Nat) (st : List UInt8 × Bool), numsR (n + 1) st = ((numsR n st).1 ++ [BitVec.ofInt 32 (numR 4294967295 (numsR n st).2).1], (numR 4294967295 (numsR n st).2).2)
  | 0, st => rfl
  | n + 1, st => by
    have ih := numsR_snoc n (numR 4294967295 st).2
    show (_ :: (numsR (n + 1) (numR 4294967295 st).2).1, (numsR (n + 1) (numR 4294967295 st).2).2) = _
    rw [ih]
    rfl
theorem numsR_length : ∀ (n : Nat) (st : List UInt8 × Bool), (numsR n st).1.length = n
  | 0, st => rfl
  | n + 1, st => by show (numsR n _).1.length + 1 = n + 1; rw [numsR_length]
theorem numR_le (most : Int) (st : List UInt8 × Bool) : 0 ≤ (numR most st).1 ∧ (numR most st).1 ≤ max most 0 := by
  unfold numR
  split
  · simp only; omega
  · simp only; omega
theorem ofInt_u32v (x : BitVec 32) : BitVec.ofInt 32 (u32v x) = x := by
  unfold u32v
  simp
theorem numsR_enc : ∀ (xs : List (BitVec 32)) (s : List UInt8), numsR xs.length (encNums (xs.map u32v) ++ s, false) = (xs, (s, false))
  | [], s => rfl
  | x :: xs, s => by
    have hx := u32v_lo x
    have hx2 := u32v_hi x
    have e : encNums ((x :: xs).map u32v) ++ s = encNum (u32v x) ++ (encNums (xs.map u32v) ++ s) := by simp [encNums]
    rw [e]
    show (BitVec.ofInt 32 (numR 4294967295 _).1 :: _, _) = _
    rw [numR_enc _ _ _ hx (by omega) (by omega)]
    simp only
    rw [numsR_enc xs s, ofInt_u32v]
def lsOf (r : Rc) : Ls := ⟨r.idx, r.term, (numR 25600 (r.data, false)).1, (numsR (numR 64 (numR 25600 (r.data, false)).2).1.toNat (numR 64 (numR 25600 (r.data, false)).2).2).1⟩
def lsEnd (r : Rc) : List UInt8 × Bool := (numsR (numR 64 (numR 25600 (r.data, false)).2).1.toNat (numR 64 (numR 25600 (r.data, false)).2).2).2
def lsOk (r : Rc) : Bool := decide (doneR (lsEnd r) = 0 ∧ r.kind = 4 ∧ (lsOf r).right)
theorem Ls.right.bytes {l : Ls} (h : l.right) : l.bytes ≤ 25600 := by
  obtain ⟨h1, h2, h3, h4, h5, h6, h7⟩ := h
  omega
theorem lsOf_rec {l : Ls} (h : l.right) : lsOf (recL l) = l ∧ lsOk (recL l) = true := by
  have hb := h.bytes
  have h' := h
  obtain ⟨h1, h2, h3, h4, h5, h6, h7⟩ := h'
  have e : (recL l).data = encNum l.bytes ++ (encNum (l.sums.length : Int) ++ (encNums (l.sums.map u32v) ++ [])) := by simp [recL, encNums]
  have e1 : numR 25600 ((recL l).data, false) = (l.bytes, (encNum (l.sums.length : Int) ++ (encNums (l.sums.map u32v) ++ []), false)) := by rw [e, numR_enc _ _ _ h5 hb (by omega)]
  have e2 : numR 64 (encNum (l.sums.length : Int) ++ (encNums (l.sums.map u32v) ++ []), false) = ((l.sums.length : Int), (encNums (l.sums.map u32v) ++ [], false)) := by rw [numR_enc _ _ _ (by omega) (by omega) (by omega)]
  have e3 : lsOf (recL l) = l := by
    unfold lsOf
    rw [e1]
    simp only
    rw [e2]
    simp only [Int.toNat_natCast]
    rw [numsR_enc]
    rfl
  refine ⟨e3, ?_⟩
  have e4 : lsEnd (recL l) = ([], false) := by
    unfold lsEnd
    rw [e1]
    simp only
    rw [e2]
    simp only [Int.toNat_natCast]
    rw [numsR_enc]
  unfold lsOk
  rw [e4, e3]
  exact decide_eq_true ⟨rfl, rfl, h⟩
/-- A list's copy. -/
def Sl.lst (x : Sl) (l : Ls) : Prop := x.1 = 1 ∧ lsOk x.2 = true ∧ lsOf x.2 = l
theorem Sl.lst_rec {l : Ls} (h : l.right) : Sl.lst (1, recL l) l := ⟨rfl, (lsOf_rec h).2, (lsOf_rec h).1⟩
theorem lsOk_right {r : Rc} (h : lsOk r = true) : (lsOf r).right := by
  unfold lsOk at h
  exact (of_decide_eq_true h).2.2
structure Sto where
  base : Int
  area : Int
  list : Ls
  deriving DecidableEq
def Sto.b (s : Sto) (a k : Int) : Int := s.base + a * 66 + k
/-- What Open makes of a copy. -/
def candS (a : Int) (x : Sl) (s : Int × Ls) : Int × Ls := if x.1 = 1 ∧ lsOk x.2 = true ∧ (s.1 < 0 ∨ s.2.idx < (lsOf x.2).idx) then (a, lsOf x.2) else s
def scanS (base : Int) (V : Int → Sl) : Nat → Int × Ls
  | 0 => (-1, Ls.zero)
  | j + 1 => candS ((j / 2 : Nat) : Int) (V (base + ((j / 2 : Nat) : Int) * 66 + ((j % 2 : Nat) : Int))) (scanS base V j)
def openSt (base : Int) (V : Int → Sl) : Sto := ⟨base, (scanS base V 4).1, (scanS base V 4).2⟩
/-- Chunk. -/
def Sto.chE (s : Sto) (V : Int → Sl) (k : Int) : Int :=
  if s.area < 0 ∨ k < 0 ∨ (s.list.sums.length : Int) ≤ k then 7
  else if (V (s.b s.area (2 + k))).1 ≠ 1 ∨ (V (s.b s.area (2 + k))).2.kind ≠ 5 ∨ (V (s.b s.area (2 + k))).2.idx ≠ s.list.idx ∨ (V (s.b s.area (2 + k))).2.term ≠ k ∨ sumOf (V (s.b s.area (2 + k))).2.data ≠ s.list.sums.getD k.toNat 0 then 6 else 0
def Sto.chV (s : Sto) (V : Int → Sl) (k : Int) : List UInt8 := if s.chE V k = 0 then (V (s.b s.area (2 + k))).2.data else []
theorem Sto.chE_cases (s : Sto) (V : Int → Sl) (k : Int) : s.chE V k = 0 ∨ s.chE V k = 6 ∨ s.chE V k = 7 := by
  unfold Sto.chE
  repeat' split
  all_goals simp
/-- What lies on the device for a snapshot in an area. -/
def chunkRec (i : Int) (k : Nat) (c : List UInt8) : Rc := ⟨5, i, k, c⟩
end Go.Proofs.Ytlnfigbcdmfmdaa
