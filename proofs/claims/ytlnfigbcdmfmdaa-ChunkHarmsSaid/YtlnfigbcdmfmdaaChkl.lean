/- Package chunk: Put, said; and where it refuses. -/
import Derived.Test.YtlnfigbcdmfmdaaChkk
namespace Go.Proofs.Ytlnfigbcdmfmdaa
open Go.RowKit
set_option linter.unusedVariables false
set_option linter.unusedSimpArgs false

/-- The pieces that Put writes. -/
def chW (s : Sto) (a i : Int) (d : List UInt8) : List (Int × Rc) := (List.range (cutL d).length).map fun (k : Nat) => (s.b a (2 + (k : Int)), chunkRec i k ((cutL d).getD k []))
theorem chW_length (s : Sto) (a i : Int) (d : List UInt8) : (chW s a i d).length = (cutL d).length := by simp [chW]
theorem chW_get (s : Sto) (a i : Int) (d : List UInt8) (k : Nat) (hk : k < (cutL d).length) : (chW s a i d)[k]'(by rw [chW_length]; exact hk) = (s.b a (2 + (k : Int)), chunkRec i k (cutL d)[k]) := by simp [chW, List.getD, hk]
theorem chunk_put {i : Int} {k : Nat} {c : List UInt8} (hi : 1 ≤ i ∧ i ≤ 1099511627776) (hk : k ≤ 64) (hc : c.length ≤ 400) : putE (chunkRec i k c) = 0 := by
  refine putE_zero ⟨by simp [chunkRec], by simp only [chunkRec]; omega, by simp only [chunkRec]; omega, by simp [chunkRec], by simp only [chunkRec]; omega, by simp only [chunkRec]; omega⟩ ?_
  show c.length ≤ 488
  omega
def putA (s : Sto) : Int := if s.area = 0 then 1 else 0
def putOk (s : Sto) (l : Ls) : Prop := l.right ∧ ¬ (0 ≤ s.area ∧ l.idx ≤ s.list.idx)
instance (s : Sto) (l : Ls) : Decidable (putOk s l) := inferInstanceAs (Decidable (_ ∧ _))
def putS (s : Sto) (l : Ls) : Sto := ⟨s.base, putA s, l⟩
def putR (s : Sto) (i t : Int) (d : List UInt8) (D : Dv) : Int × Dv := runs [chW s (putA s) i d, [copR s (putA s) (ofL i t d) 0], [copR s (putA s) (ofL i t d) 1]] D
theorem putR_eq (s : Sto) (i t : Int) (d : List UInt8) (D : Dv) : putR s i t d D = if (wrf (chW s (putA s) i d) D).1 = 0 then copsD s (putA s) (ofL i t d) (wrf (chW s (putA s) i d) D).2 else wrf (chW s (putA s) i d) D := rfl
/-- Put, whole: what it answers, the device behind it, the store behind it. -/
def putX (s : Sto) (i t : Int) (d : List UInt8) (D : Dv) : Int × Dv × Sto :=
  if putOk s (ofL i t d) then ((putR s i t d D).1, (putR s i t d D).2, if (putR s i t d D).1 = 0 then putS s (ofL i t d) else s) else (1, D, s)
def PutTo (w0 w : World) (q b : Nat) (X : Int × Dv × Sto) (n : Int) (O : List Nat) (e : Ending) (w' : World) : Prop := ∃ sv', e = .returned (.int .i64 X.1) ∧ StM w0 w' q b sv' X.2.1 X.2.2 n O ∧ Kept O w w'
section
variable {w0 w : World} {q b : Nat} {sv : Value} {D : Dv} {s : Sto} {n : Int} {O : List Nat}
set_option maxHeartbeats 3200000 in
theorem put_nil (i t : Int) (d : List UInt8) (w : World) (hd : d.length ≤ 1000000000) : Calls Try.prog 14 #[.pointer none, .int .i64 i, .int .i64 t, str d] w fun e w' => e = .returned (.int .i64 1) ∧ Ext [] w w' := by
  have co := ofl_any i t d w hd
  generalize ofL i t d = l at co
  go_enter Try.func14, Try.ntmps14
  go_wp2_with fail
  refine co.mono ?_
  rintro e w1 ⟨sl, rfl, ho1, hx1, hv1⟩
  obtain ⟨sa, sc, rfl⟩ := Rd.isSlice ho1.rd
  clear co ho1 hv1
  unfold lsv
  go_wp2
  go_ret
  exact ⟨rfl, hx1.alloc _⟩
set_option maxHeartbeats 6400000 in
theorem put_bad (h : StM w0 w q b sv D s n O) (i t : Int) (d : List UInt8) (hd : d.length ≤ 1000000000) (hk : ¬ putOk s (ofL i t d)) :
    Calls Try.prog 14 #[.pointer (some ⟨q, 0, none⟩), .int .i64 i, .int .i64 t, str d] w fun e w' => e = .returned (.int .i64 1) ∧ Ext [] w w' := by
  have co := ofl_any i t d w hd
  have hbt : (ofL i t d).bytes = d.length := rfl
  have hidx : (ofL i t d).idx = i := rfl
  have cr := fun sl w' (hs : Sums w' sl (ofL i t d).sums) => right_any (ofL i t d) sl w' hs (by rw [hbt]; omega)
  have cq := fun w' (hx : Ext [] w w') => StB.cells (Blk.keep h.blk hx (by simp) : StB w' q b sv s)
  unfold putOk at hk
  rw [hidx] at hk
  generalize ofL i t d = l at co cr hk
  generalize s.list.idx = li at cq hk
  generalize s.area = ar at cq hk
  clear h hd hbt hidx
  go_enter Try.func14, Try.ntmps14
  go_wp2_with fail
  refine co.mono ?_
  rintro e w1 ⟨sl, rfl, ho1, hx1, hv1⟩
  obtain ⟨sa, sc, rfl⟩ := Rd.isSlice ho1.rd
  obtain ⟨w2, hw2⟩ : ∃ w2, w2 = w1.alloc (.cells #[.int .i64 l.idx, .int .i64 l.term, .int .i64 l.bytes, .slice sa l.sums.length sc] 42) := ⟨_, rfl⟩
  have hx2 : Ext [] w w2 := by rw [hw2]; exact hx1.alloc _
  have hs2 : Sums w2 (.slice sa l.sums.length sc) l.sums := by rw [hw2]; exact ho1.rd.alloc _
  have c2 := cr _ w2 hs2
  clear co cr ho1 hv1 hx1
  unfold lsv at c2 ⊢
  by_cases hr : l.right
  · have hk2 : 0 ≤ ar ∧ i ≤ li := by
      by_cases h : 0 ≤ ar ∧ i ≤ li
      · exact h
      · exact absurd ⟨hr, h⟩ hk
    have e1 : decide (0 ≤ ar) = true := decide_eq_true hk2.1
    have e2 : decide (i ≤ li) = true := decide_eq_true hk2.2
    rw [decide_eq_true hr] at c2
    clear hk hk2 hr
    go_wp2_with fail
    rw [← hw2]
    refine c2.mono ?_
    rintro e w3 ⟨rfl, hx3⟩
    have hx4 := hx2.then0 hx3
    obtain ⟨-, -, c2, c3, -, -, -⟩ := cq w3 hx4
    clear hw2 cq hs2 hx2 hx3
    go_wp2
    go_ret
    exact ⟨rfl, hx4⟩
  · rw [decide_eq_false hr] at c2
    clear hk hr
    go_wp2_with fail
    rw [← hw2]
    refine c2.mono ?_
    rintro e w3 ⟨rfl, hx3⟩
    have hx4 := hx2.then0 hx3
    clear hw2 cq hs2 hx2 hx3 c2
    go_wp2
    go_ret
    exact ⟨rfl, hx4⟩
end
end Go.Proofs.Ytlnfigbcdmfmdaa
