/- A variable of a struct type made and filled at once (alloc, then a store of all its cells): no cell is opened. No function of the program is named here. -/
import Derived.Test.YtmjgbkepngeckaaBaseb
import Derived.Deep.MidRow
import Derived.Laws.Alloc2
namespace Go.Proofs.Ytmjgbkepngeckaa
open Go.RowKit
set_option linter.unusedVariables false

theorem setCells_new (w : World) (t : TypeId) : ∀ (vs done rest : List Value), rest.length = vs.length →
    (w.alloc (.cells (done ++ rest).toArray t)).setCells w.heap.size done.length vs = w.alloc (.cells (done ++ vs).toArray t)
  | [], done, rest, h => by
    have : rest = [] := List.length_eq_zero_iff.1 (by simpa using h)
    subst this; rfl
  | v :: vs, done, rest, h => by
    obtain ⟨r, rest, rfl⟩ : ∃ r l, rest = r :: l := by
      cases rest with
      | nil => simp at h
      | cons r l => exact ⟨r, l, rfl⟩
    rw [World.setCells, World.setCell_alloc_new]
    have e : ((done ++ r :: rest).toArray.setIfInBounds done.length v) = ((done ++ [v]) ++ rest).toArray := by
      apply Array.ext'
      rw [Array.toList_setIfInBounds]
      simp
    rw [e]
    have := setCells_new w t vs (done ++ [v]) rest (by simpa using h)
    rw [List.length_append, List.length_singleton] at this
    rw [this]
    simp
theorem setCells_alloc (w : World) (t : TypeId) (z : Array Value) (vs : List Value) (h : z.size = vs.length) :
    (w.alloc (.cells z t)).setCells w.heap.size 0 vs = w.alloc (.cells vs.toArray t) := by
  have := setCells_new w t vs [] z.toList (by simpa using h)
  simpa using this
theorem Hid.of {p : Prop} (h : p) : Hid p := h
theorem World.rangeAt_new (w : World) (cs : List Value) (t : TypeId) : (w.alloc (.cells cs.toArray t)).rangeAt w.heap.size 0 cs := by
  intro j v hv
  rw [Nat.zero_add, World.cell?_alloc_new]
  simpa using hv
theorem World.there_new (w : World) (z : Array Value) (t : TypeId) : (w.alloc (.cells z t)).there w.heap.size 0 z.size := by
  intro j hj
  rw [Nat.zero_add]
  refine ⟨?_, World.frozen?_alloc_new _ _ _ _⟩
  rw [World.cell?_alloc_new, Array.getElem?_eq_getElem hj]; rfl
/-- Make a variable, fill it. -/
theorem wpList_new_row {P : Program} {ops : Array Oper} {rest : List Oper} {o1 o2 : Oper} {a : Act} {w : World} {Q : Exit → Act → World → Prop} (h1 : o1.guard = none) (h2 : o2.guard = none) (T : TypeId) (d : Tmp) (x y : Operand) (ho1 : o1.op = .alloc T) (hd1 : o1.dst = some d) (ho2 : o2.op = .store T x y) (hd2 : o2.dst = none)
    (z : Array Value) (hal : ∀ W, (Instr.alloc T true (.tuple #[])).run P W = .ok (.pointer (some ⟨W.heap.size, 0, none⟩)) (W.alloc (.cells z T)))
    (cs : List Value) (hz : z.size = cs.length) (hi : (P.info? T).map (·.size) = some cs.length) (hone : ∀ v ∈ cs, v.oneCell' = true)
    (hx : (a.put (some d) (.pointer (some ⟨w.heap.size, 0, none⟩))).eval x = .pointer (some ⟨w.heap.size, 0, none⟩)) (hy : (a.put (some d) (.pointer (some ⟨w.heap.size, 0, none⟩))).eval y = .agg cs.toArray)
    (h : wpList P ops Q rest (a.put (some d) (.pointer (some ⟨w.heap.size, 0, none⟩))) (w.alloc (.cells cs.toArray T))) : wpList P ops Q (o1 :: o2 :: rest) a w := by
  refine wpList_plain h1 fun K hK => ?_
  unfold Oper.wp execOp
  simp only [ho1, Sem.run_bind, hal, Result.andThen_ok, Sem.run_pure, Oper.upon_value]
  refine hK _ _ ?_
  rw [hd1]
  refine wpList_store_mid h2 T x y ho2 w.heap.size 0 cs.toArray hx hy (by have := World.there_new w z T; rw [hz] at this; simpa using this) (by simpa using hi) (all_oneCell_toArray hone) ?_
  rw [hd2, setCells_alloc _ _ _ _ (by simpa using hz)]
  simpa [Act.put] using h
end Go.Proofs.Ytmjgbkepngeckaa
