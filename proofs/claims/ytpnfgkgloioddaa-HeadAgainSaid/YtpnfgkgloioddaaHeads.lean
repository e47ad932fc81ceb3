/- A head that came in by value. -/
import Derived.Test.YtpnfgkgloioddaaArgs
import Derived.Test.YtpnfgkgloioddaaHdBeg
import Derived.Lib.SmallJoins
namespace Go.Proofs.Ytpnfgkgloioddaa
open Go.ChangeShapes Go.WideShapes Go.ChangeAt Go.RowKit Go.Deep
set_option linter.unusedVariables false

variable {H : Type} {enc : TypeId × Value → H} {w : World} {spare : Nat → Bool} {held : Bool}
set_option maxRecDepth 100000 in
theorem hd_of_trod {r : Reach} {b0 : Nat} {v : Value} {d : DataW H} {ps : List MemPlace} (hv : Value.okWide Try.prog w r b0 75 v) (h : DataW.Trod enc Try.prog w 0 spare held 75 v d ps) :
    ∃ r : Hd, v = r.val ∧ True := by
  obtain ⟨cs, rfl, hsz⟩ := okWide_struct Try.underlying75 hv
  have e4 : Try.prog.cellsOf 75 = 4 := by kernel_rfl
  have ei : Try.prog.cellsOf 3 = 1 := by kernel_rfl
  rw [e4] at hsz
  obtain ⟨cs⟩ := cs
  match cs, hsz with
  | [u0, u1, u2, u3], _ =>
    obtain ⟨m, hf⟩ := h
    obtain ⟨y0, y1, y2, y3, n, _, hl, h0, h1, h2, h3⟩ := Go.Joins.trod_struct4 Try.underlying75 hf
    simp only [Value.cells, ei, List.drop_zero, List.take_succ_cons, List.take_zero, List.drop_succ_cons] at h0 h1 h2 h3
    obtain ⟨a, e0, _, w0⟩ := DataW.trod_int Try.underlying3 h0
    obtain ⟨b, e1, _, w1⟩ := DataW.trod_int Try.underlying3 h1
    obtain ⟨c, e2, _, w2⟩ := DataW.trod_int Try.underlying3 h2
    obtain ⟨e, e3, _, w3⟩ := DataW.trod_int Try.underlying3 h3
    cases e0; cases e1; cases e2; cases e3
    exact ⟨⟨a, b, c, e⟩, rfl, trivial⟩
end Go.Proofs.Ytpnfgkgloioddaa
