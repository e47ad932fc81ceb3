/- An entry that came in by value. -/
import Derived.Test.YtmjgbkepngeckaaArgs
import Derived.Test.YtmjgbkepngeckaaLawPerr
import Derived.Deep.Strs
namespace Go.Proofs.Ytmjgbkepngeckaa
open Go.ChangeShapes Go.WideShapes Go.ChangeAt Go.RowKit Go.Deep
set_option linter.unusedVariables false

variable {H : Type} {enc : TypeId × Value → H} {w : World} {spare : Nat → Bool} {held : Bool}
set_option maxRecDepth 100000 in
theorem ent_of_trod {r : Reach} {b0 : Nat} {v : Value} {d : DataW H} {ps : List MemPlace} (hv : Value.okWide Try.prog w r b0 37 v) (h : DataW.Trod enc Try.prog w 0 spare held 37 v d ps) :
    ∃ r : Ent, v = r.val ∧ r.i64 := by
  obtain ⟨cs, rfl, hsz⟩ := okWide_struct Try.underlying37 hv
  have e4 : Try.prog.cellsOf 37 = 3 := by kernel_rfl
  have ei : Try.prog.cellsOf 3 = 1 := by kernel_rfl
  have es : Try.prog.cellsOf 9 = 1 := by kernel_rfl
  rw [e4] at hsz
  obtain ⟨cs⟩ := cs
  match cs, hsz with
  | [u0, u1, u2], _ =>
    obtain ⟨m, hf⟩ := h
    obtain ⟨y0, y1, y2, n, _, hl, h0, h1, h3⟩ := trod_struct3 Try.underlying37 hf
    simp only [Value.cells, ei, es, List.drop_zero, List.take_succ_cons, List.take_zero, List.drop_succ_cons] at h0 h1 h3
    obtain ⟨a, e0, _, w0⟩ := DataW.trod_int Try.underlying3 h0
    obtain ⟨b, e1, _, w1⟩ := DataW.trod_int Try.underlying3 h1
    obtain ⟨⟨⟨s⟩⟩, e3, _, w3⟩ := DataW.trod_string Try.underlying9 h3
    cases e0; cases e1; cases e3
    exact ⟨⟨a, b, s⟩, rfl, wf_i64 w0, wf_i64 w1, w3⟩
theorem perrors_w {w : World} (n : Int) (_ : -9223372036854775808 ≤ n ∧ n ≤ 9223372036854775807) (x : Ent) (hx : x.i64) : Calls Try.prog 10 #[.int .i64 n, x.val] w fun e w' => e = .returned (.bool true) ∧ Ext [] w w' := perrors_any n x hx
end Go.Proofs.Ytmjgbkepngeckaa
