/- Layer 4's example, a rec that came in, recs compared. -/
import Derived.Test.YtmjgbkepngeckaaSlotg
import Derived.Test.YtmjgbkepngeckaaDevN
namespace Go.Proofs.Ytmjgbkepngeckaa
open Go.RowKit
set_option linter.unusedVariables false

/-- A rec lies in block q. -/
def RcAt (w : World) (q : Nat) (r : Rc) : Prop := w.heap[q]? = some (.cells #[.int .i64 r.kind, .int .i64 r.idx, .int .i64 r.term, str r.data] 39 (0, 0))
theorem RcAt.lt {w : World} {q : Nat} {r : Rc} (h : RcAt w q r) : q < w.heap.size := (Array.getElem?_eq_some_iff.1 h).1
theorem RcAt.c0 {w : World} {q : Nat} {r : Rc} (h : RcAt w q r) : w.cell? ⟨q, 0, none⟩ = some (.int .i64 r.kind) := by rw [cell_row h]; rfl
theorem RcAt.c1 {w : World} {q : Nat} {r : Rc} (h : RcAt w q r) : w.cell? ⟨q, 1, none⟩ = some (.int .i64 r.idx) := by rw [cell_row h]; rfl
theorem RcAt.c2 {w : World} {q : Nat} {r : Rc} (h : RcAt w q r) : w.cell? ⟨q, 2, none⟩ = some (.int .i64 r.term) := by rw [cell_row h]; rfl
theorem RcAt.c3 {w : World} {q : Nat} {r : Rc} (h : RcAt w q r) : w.cell? ⟨q, 3, none⟩ = some (str r.data) := by rw [cell_row h]; rfl
theorem RcAt.keep {w w' : World} {q : Nat} {r : Rc} (h : RcAt w q r) (hx : Ext [] w w') : RcAt w' q r := hx.heap (by simp) h
theorem RcAt.new (w : World) (k i t : Int) (d : List UInt8) : RcAt (w.alloc (.cells #[.int .i64 k, .int .i64 i, .int .i64 t, .string ⟨d.toArray⟩] 39)) w.heap.size ⟨k, i, t, d⟩ := heap_alloc_new _ _

theorem Rd4 : putE ⟨1, 2, 3, [97, 98, 99]⟩ = 0 := by decide
end Go.Proofs.Ytmjgbkepngeckaa
