/- A variable of a struct type: made; as a result. No function of the program is named here. -/
import Derived.Test.YtaekkkcgoegllaaRow
namespace Go.Proofs.Ytaekkkcgoegllaa
open Go.RowKit
set_option linter.unusedVariables false

/-- Make a variable. -/
theorem wpList_zero_row {P : Program} {ops : Array Oper} {rest : List Oper} {o1 : Oper} {a : Act} {w : World} {Q : Exit → Act → World → Prop} (h1 : o1.guard = none) (T : TypeId) (ho1 : o1.op = .alloc T)
    (cs : List Value) (hal : ∀ W, (Instr.alloc T true (.tuple #[])).run P W = .ok (.pointer (some ⟨W.heap.size, 0, none⟩)) (W.alloc (.cells cs.toArray T)))
    (h : wpList P ops Q rest (a.put o1.dst (.pointer (some ⟨w.heap.size, 0, none⟩))) (w.alloc (.cells cs.toArray T))) : wpList P ops Q (o1 :: rest) a w := by
  refine wpList_plain h1 fun K hK => ?_
  unfold Oper.wp execOp
  simp only [ho1, Sem.run_bind, hal, Result.andThen_ok, Sem.run_pure, Oper.upon_value]
  exact hK _ _ h
/-- The results: a row in a cell, a value. -/
theorem results_row {P : Program} {fn : Func} {a u : Tmp} {t : TypeId} (h : fn.results = #[.cell a t, .tmp u]) (tmps : Array Value) (w : World) (b : Nat) (cs : List Value) (d : TypeDesc) (ha : tmps.getD a undef = .pointer (some ⟨b, 0, none⟩))
    (hc : w.rangeAt b 0 cs) (hu : P.underlying t = some d) (hd : d.isRow = true) (hi : (P.info? t).map (·.size) = some cs.length) :
    (results fn tmps).run P w = .ok (.tuple #[.agg cs.toArray, tmps.getD u undef]) w := by
  have hl := run_loadVar_mid (P := P) w b 0 t cs d hc hu hd hi
  have ha' : tmps[a]?.getD undef = .pointer (some ⟨b, 0, none⟩) := by simpa using ha
  simp [results, h, ha', asAddr, hl]
end Go.Proofs.Ytaekkkcgoegllaa
