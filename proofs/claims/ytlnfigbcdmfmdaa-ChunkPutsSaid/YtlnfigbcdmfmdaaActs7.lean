/- Layer 7's acts that came in. -/
import Derived.Test.YtlnfigbcdmfmdaaArgs
import Derived.Deep.Strs
import Derived.Lib.SmallJoins
namespace Go.Proofs.Ytlnfigbcdmfmdaa
open Go.ChangeShapes Go.WideShapes Go.ChangeAt Go.RowKit Go.Deep
set_option linter.unusedVariables false
set_option linter.unusedSimpArgs false

structure A7 where
  k : Int
  n : Int
  st : Int
  f : Int
  fa : Option Addr
  fl : Nat
  fc : Nat
def A7.cells (x : A7) : List Value := [.int .i64 x.k, .int .i64 x.n, .int .i64 x.st, .int .i64 x.f, .slice x.fa x.fl x.fc]
theorem a7cells_len (x : A7) : x.cells.length = 5 := rfl
/-- Its fates read. -/
def A7.ok (w : World) (x : A7) : Prop := ((-9223372036854775808 ≤ x.k ∧ x.k ≤ 9223372036854775807) ∧ (-9223372036854775808 ≤ x.n ∧ x.n ≤ 9223372036854775807) ∧ (-9223372036854775808 ≤ x.st ∧ x.st ≤ 9223372036854775807) ∧ (-9223372036854775808 ≤ x.f ∧ x.f ≤ 9223372036854775807)) ∧ ∃ fs : List Int, Rd w 1 (.slice x.fa x.fl x.fc) x.fl (fs.map (Value.int .i64))

variable {H : Type} {enc : TypeId × Value → H} {w : World} {spare : Nat → Bool} {held : Bool}
theorem slice_of_trod7 {P : Program} {t e : TypeId} {m : Nat} {u : Value} {y : DataW H × List MemPlace} (ht : P.underlying t = some (.slice e)) (h : DataW.trod enc P w 0 spare held m t [u] = some y) :
    ∃ a n c, u = .slice a n c ∧ DataW.Trod enc P w 0 spare held t (.slice a n c) y.1 y.2 := by
  rcases DataW.trod_slice ht h with ⟨h0, _⟩ | ⟨a', len', cap', elems, rest, n, _, hcs, _⟩
  · simp at h0; subst h0
    exact ⟨none, 0, 0, rfl, m, h⟩
  · simp at hcs; subst hcs
    exact ⟨some a', len', cap', rfl, m, h⟩
set_option maxRecDepth 100000 in
theorem a7_of_trod {m : Nat} {cs : List Value} {y : DataW H × List MemPlace} (h : DataW.trod enc Try.prog w 0 spare held m 72 cs = some y) :
    ∃ p : A7, cs = p.cells ∧ p.ok w := by
  obtain ⟨xs, n, _, _, hl, hlen, hf⟩ := DataW.trod_struct Try.underlying72 h
  have e5 : Try.prog.cellsOf 72 = 5 := by kernel_rfl
  have ei : Try.prog.cellsOf 3 = 1 := by kernel_rfl
  have ef : Try.prog.cellsOf 70 = 1 := by kernel_rfl
  rw [e5] at hl
  match cs, hl, xs, hlen with
  | [u0, u1, u2, u3, u4], _, [y0, y1, y2, y3, y4], _ =>
    have h0 := hf 0 _ rfl
    have h1 := hf 1 _ rfl
    have h2 := hf 2 _ rfl
    have h3 := hf 3 _ rfl
    have h4 := hf 4 _ rfl
    simp only [ei, ef, List.drop_zero, List.take_succ_cons, List.take_zero, List.drop_succ_cons, List.getElem?_cons_zero, List.getElem?_cons_succ] at h0 h1 h2 h3 h4
    obtain ⟨n0, c0, _, w0⟩ := DataW.trod_int Try.underlying3 h0
    obtain ⟨n1, c1, _, w1⟩ := DataW.trod_int Try.underlying3 h1
    obtain ⟨n2, c2, _, w2⟩ := DataW.trod_int Try.underlying3 h2
    obtain ⟨n3, c3, _, w3⟩ := DataW.trod_int Try.underlying3 h3
    obtain ⟨fa, fl, fc, c4, t4⟩ := slice_of_trod7 Try.underlying70 h4
    obtain ⟨fs, hfs, _⟩ := rd_ints Try.underlying70 Try.underlying46 (by kernel_rfl) t4
    cases c0; cases c1; cases c2; cases c3; cases c4
    exact ⟨⟨n0, n1, n2, n3, fa, fl, fc⟩, rfl, ⟨wf_i64 w0, wf_i64 w1, wf_i64 w2, wf_i64 w3⟩, fs, hfs⟩
theorem rd_acts7 {a : Option Addr} {len cap : Nat} {d : DataW H} {ps : List MemPlace}
    (h : DataW.Trod enc Try.prog w 0 spare held 69 (.slice a len cap) d ps) :
    ∃ l : List A7, Rd w 5 (.slice a len cap) len (l.flatMap A7.cells) ∧ ∀ p ∈ l, p.ok w := by
  obtain ⟨xs, h1, h2⟩ := rd_of_trod Try.underlying69 (by kernel_rfl : Try.prog.cellsOf 72 = 5) h
  obtain ⟨l, h3, h4, h5⟩ := pieces A7.cells (A7.ok w) 5 len xs h1.1 (fun i hi => by
    obtain ⟨m, y, hy⟩ := h2 i hi
    exact a7_of_trod hy)
  exact ⟨l, h4 ▸ h1, h5⟩
end Go.Proofs.Ytlnfigbcdmfmdaa
