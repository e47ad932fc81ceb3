/- Acts: a slice of structs that came in; what an act does to a device, as a plain function. -/
import Derived.Test.YtpnfgkgloioddaaArgs
import Derived.Test.YtpnfgkgloioddaaDevN
import Derived.Deep.Strs
import Derived.Lib.SmallJoins
namespace Go.Proofs.Ytpnfgkgloioddaa
open Go.ChangeShapes Go.WideShapes Go.ChangeAt Go.RowKit Go.Deep
set_option linter.unusedVariables false
set_option linter.unusedSimpArgs false

structure Ac where
  k : Int
  block : Int
  n : Int
  data : List UInt8
  bits : UInt8
def Ac.cells (a : Ac) : List Value := [.int .i64 a.k, .int .i64 a.block, .int .i64 a.n, str a.data, .int .u8 (a.bits.toNat : Int)]
def Ac.val (a : Ac) : Value := .agg #[.int .i64 a.k, .int .i64 a.block, .int .i64 a.n, str a.data, .int .u8 (a.bits.toNat : Int)]
theorem acells_len (a : Ac) : a.cells.length = 5 := rfl
def WfAc (a : Ac) : Prop := (-9223372036854775808 ≤ a.k ∧ a.k ≤ 9223372036854775807) ∧ (-9223372036854775808 ≤ a.block ∧ a.block ≤ 9223372036854775807) ∧ (-9223372036854775808 ≤ a.n ∧ a.n ≤ 9223372036854775807) ∧ a.data.length ≤ maxLen
def acK (a : Ac) : Nat := uint a.k % 6
def actE (a : Ac) (D : Dv) : Int := if acK a = 0 ∨ acK a = 1 then writeE a.block a.data D else if acK a = 2 then turnE D else 0
def actD (a : Ac) (D : Dv) : Dv := if acK a = 0 ∨ acK a = 1 then writeD a.block a.data D else if acK a = 2 then flushD D else if acK a = 3 then flipD a.block a.n a.bits D else if acK a = 4 then loseD a.block D else fallD a.n D
def actsD (l : List Ac) (D : Dv) : Dv := l.foldl (fun D a => actD a D) D
theorem actsD_snoc (l : List Ac) (a : Ac) (D : Dv) : actsD (l ++ [a]) D = actD a (actsD l D) := by simp [actsD]

variable {H : Type} {enc : TypeId × Value → H} {w : World} {spare : Nat → Bool} {held : Bool}
set_option maxRecDepth 100000 in
theorem ac_of_trod {m : Nat} {cs : List Value} {y : DataW H × List MemPlace} (h : DataW.trod enc Try.prog w 0 spare held m 59 cs = some y) :
    ∃ p : Ac, cs = p.cells ∧ WfAc p := by
  obtain ⟨xs, n, _, _, hl, hlen, hf⟩ := DataW.trod_struct Try.underlying59 h
  have e5 : Try.prog.cellsOf 59 = 5 := by kernel_rfl
  have ei : Try.prog.cellsOf 3 = 1 := by kernel_rfl
  have es : Try.prog.cellsOf 9 = 1 := by kernel_rfl
  have eb : Try.prog.cellsOf 5 = 1 := by kernel_rfl
  rw [e5] at hl
  match cs, hl, xs, hlen with
  | [u0, u1, u2, u3, u4], _, [y0, y1, y2, y3, y4], _ =>
    have h0 := hf 0 _ rfl
    have h1 := hf 1 _ rfl
    have h2 := hf 2 _ rfl
    have h3 := hf 3 _ rfl
    have h4 := hf 4 _ rfl
    simp only [ei, es, eb, List.drop_zero, List.take_succ_cons, List.take_zero, List.drop_succ_cons, List.getElem?_cons_zero, List.getElem?_cons_succ] at h0 h1 h2 h3 h4
    obtain ⟨a, e0, _, w0⟩ := DataW.trod_int Try.underlying3 h0
    obtain ⟨b, e1, _, w1⟩ := DataW.trod_int Try.underlying3 h1
    obtain ⟨c, e2, _, w2⟩ := DataW.trod_int Try.underlying3 h2
    obtain ⟨⟨⟨s⟩⟩, e3, _, w3⟩ := DataW.trod_string Try.underlying9 h3
    obtain ⟨z, e4, _, w4⟩ := DataW.trod_int Try.underlying5 h4
    obtain ⟨q, rfl⟩ := wf_u8 w4
    cases e0; cases e1; cases e2; cases e3; cases e4
    exact ⟨⟨a, b, c, s, q⟩, rfl, wf_i64 w0, wf_i64 w1, wf_i64 w2, w3⟩
theorem rd_acts {a : Option Addr} {len cap : Nat} {d : DataW H} {ps : List MemPlace}
    (h : DataW.Trod enc Try.prog w 0 spare held 54 (.slice a len cap) d ps) :
    ∃ l : List Ac, Rd w 5 (.slice a len cap) len (l.flatMap Ac.cells) ∧ ∀ p ∈ l, WfAc p := by
  obtain ⟨xs, h1, h2⟩ := rd_of_trod Try.underlying54 (by kernel_rfl : Try.prog.cellsOf 59 = 5) h
  obtain ⟨l, h3, h4, h5⟩ := pieces Ac.cells WfAc 5 len xs h1.1 (fun i hi => by
    obtain ⟨m, y, hy⟩ := h2 i hi
    exact ac_of_trod hy)
  exact ⟨l, h4 ▸ h1, h5⟩
end Go.Proofs.Ytpnfgkgloioddaa
