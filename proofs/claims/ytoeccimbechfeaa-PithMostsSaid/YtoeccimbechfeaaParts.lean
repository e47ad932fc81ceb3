/- A slice of parts that came in. -/
import Derived.Test.YtoeccimbechfeaaArgs
import Derived.Test.YtoeccimbechfeaaLaw1
import Derived.Deep.Strs
namespace Go.Proofs.Ytoeccimbechfeaa
open Go.ChangeShapes Go.WideShapes Go.ChangeAt Go.RowKit Go.Deep
set_option linter.unusedVariables false

def WfPart (p : Part) : Prop := (-9223372036854775808 ≤ p.k ∧ p.k ≤ 9223372036854775807) ∧ (-9223372036854775808 ≤ p.n ∧ p.n ≤ 9223372036854775807) ∧ p.s.length ≤ maxLen

variable {H : Type} {enc : TypeId × Value → H} {w : World} {spare : Nat → Bool} {held : Bool}
theorem part_of_trod {m : Nat} {cs : List Value} {y : DataW H × List MemPlace} (h : DataW.trod enc Try.prog w 0 spare held m 38 cs = some y) :
    ∃ p : Part, cs = p.cells ∧ WfPart p := by
  obtain ⟨y0, y1, y2, n, _, hl, h0, h1, h2⟩ := trod_struct3 Try.underlying38 h
  have e3 : Try.prog.cellsOf 38 = 3 := by kernel_rfl
  have ei : Try.prog.cellsOf 3 = 1 := by kernel_rfl
  have es : Try.prog.cellsOf 9 = 1 := by kernel_rfl
  rw [e3] at hl
  match cs, hl with
  | [u0, u1, u2], _ =>
    simp only [ei, es, List.drop_zero, List.take_succ_cons, List.take_zero, List.drop_succ_cons] at h0 h1 h2
    obtain ⟨a, e0, _, w0⟩ := DataW.trod_int Try.underlying3 h0
    obtain ⟨b, e1, _, w1⟩ := DataW.trod_int Try.underlying3 h1
    obtain ⟨⟨⟨s⟩⟩, e2, _, w2⟩ := DataW.trod_string Try.underlying9 h2
    cases e0; cases e1; cases e2
    exact ⟨⟨a, b, s⟩, rfl, wf_i64 w0, wf_i64 w1, w2⟩
theorem rd_parts {a : Option Addr} {len cap : Nat} {d : DataW H} {ps : List MemPlace}
    (h : DataW.Trod enc Try.prog w 0 spare held 36 (.slice a len cap) d ps) :
    ∃ l : List Part, Rd w 3 (.slice a len cap) len (l.flatMap Part.cells) ∧ ∀ p ∈ l, WfPart p := by
  obtain ⟨xs, h1, h2⟩ := rd_of_trod Try.underlying36 (by kernel_rfl : Try.prog.cellsOf 38 = 3) h
  obtain ⟨l, h3, h4, h5⟩ := pieces Part.cells WfPart 3 len xs h1.1 (fun i hi => by
    obtain ⟨m, y, hy⟩ := h2 i hi
    exact part_of_trod hy)
  exact ⟨l, h4 ▸ h1, h5⟩
end Go.Proofs.Ytoeccimbechfeaa
