/- Messages that came in: one by value, a slice of them. -/
import Derived.Test.YtaekkkcgoegllaaNet
import Derived.Test.YtaekkkcgoegllaaArgs
import Derived.Deep.Strs
import Derived.Lib.SmallJoins
namespace Go.Proofs.Ytaekkkcgoegllaa
open Go.ChangeShapes Go.WideShapes Go.ChangeAt Go.RowKit Go.Deep
set_option linter.unusedVariables false
set_option linter.unusedSimpArgs false

def I64 (n : Int) : Prop := -9223372036854775808 ≤ n ∧ n ≤ 9223372036854775807
structure En where
  index : Int
  term : Int
  data : List UInt8
def En.cells (e : En) : List Value := [.int .i64 e.index, .int .i64 e.term, str e.data]
def En.ok (e : En) : Prop := I64 e.index ∧ I64 e.term ∧ e.data.length ≤ maxLen
def u32s (ss : List UInt32) : List Value := ss.map fun c => Value.int .u32 (c.toNat : Int)
/-- A message in memory: its entries, its sums. -/
structure MsAt (w : World) (m : Ms) (es : List En) (ss : List UInt32) : Prop where
  nums : I64 m.kind ∧ I64 m.frm ∧ I64 m.too ∧ I64 m.term ∧ I64 m.index ∧ I64 m.logT ∧ I64 m.last ∧ I64 m.commit ∧ I64 m.state ∧ I64 m.li ∧ I64 m.lt ∧ I64 m.lb ∧ I64 m.part
  data : m.data.length ≤ maxLen
  ents : Rd w 3 (.slice m.ea m.en m.ec) m.en (es.flatMap En.cells)
  entsok : ∀ e ∈ es, e.ok
  sums : Rd w 1 (.slice m.sa m.sn m.sc) m.sn (u32s ss)
def MsOk (w : World) (m : Ms) : Prop := ∃ es ss, MsAt w m es ss

variable {H : Type} {enc : TypeId × Value → H} {w : World} {spare : Nat → Bool} {held : Bool}
theorem en_of_trod {m : Nat} {cs : List Value} {y : DataW H × List MemPlace} (h : DataW.trod enc Try.prog w 0 spare held m 60 cs = some y) :
    ∃ p : En, cs = p.cells ∧ p.ok := by
  obtain ⟨y0, y1, y2, n, _, hl, h0, h1, h2⟩ := trod_struct3 Try.underlying60 h
  have e3 : Try.prog.cellsOf 60 = 3 := by kernel_rfl
  have ei : Try.prog.cellsOf 3 = 1 := by kernel_rfl
  have es : Try.prog.cellsOf 9 = 1 := by kernel_rfl
  rw [e3] at hl
  match cs, hl with
  | [u0, u1, u2], _ =>
    simp only [ei, es, List.drop_zero, List.take_succ_cons, List.take_zero, List.drop_succ_cons] at h0 h1 h2
    obtain ⟨a, e0, _, w0⟩ := DataW.trod_int Try.underlying3 h0
    obtain ⟨b, e1, _, w1⟩ := DataW.trod_int Try.underlying3 h1
    obtain ⟨⟨⟨s⟩⟩, e2, _, w2⟩ := DataW.trod_string Try.underlying9 h2
    cases e0; cases e1; cases e2
    exact ⟨⟨a, b, s⟩, rfl, wf_i64 w0, wf_i64 w1, w2⟩
theorem slice_of_trod {P : Program} {t e : TypeId} {m : Nat} {u : Value} {y : DataW H × List MemPlace} (ht : P.underlying t = some (.slice e)) (h : DataW.trod enc P w 0 spare held m t [u] = some y) :
    ∃ a n c, u = .slice a n c ∧ DataW.Trod enc P w 0 spare held t (.slice a n c) y.1 y.2 := by
  rcases DataW.trod_slice ht h with ⟨h0, _⟩ | ⟨a', len', cap', elems, rest, n, _, hcs, _⟩
  · simp at h0; subst h0
    exact ⟨none, 0, 0, rfl, m, h⟩
  · simp at hcs; subst hcs
    exact ⟨some a', len', cap', rfl, m, h⟩
theorem ents_of_trod {a : Option Addr} {len cap : Nat} {d : DataW H} {ps : List MemPlace}
    (h : DataW.Trod enc Try.prog w 0 spare held 30 (.slice a len cap) d ps) :
    ∃ l : List En, Rd w 3 (.slice a len cap) len (l.flatMap En.cells) ∧ ∀ p ∈ l, p.ok := by
  obtain ⟨xs, h1, h2⟩ := rd_of_trod Try.underlying30 (by kernel_rfl : Try.prog.cellsOf 60 = 3) h
  obtain ⟨l, h3, h4, h5⟩ := pieces En.cells En.ok 3 len xs h1.1 (fun i hi => by
    obtain ⟨m, y, hy⟩ := h2 i hi
    exact en_of_trod hy)
  exact ⟨l, h4 ▸ h1, h5⟩
theorem u32s_of_trod {a : Option Addr} {len cap : Nat} {d : DataW H} {ps : List MemPlace}
    (h : DataW.Trod enc Try.prog w 0 spare held 32 (.slice a len cap) d ps) :
    ∃ l : List UInt32, Rd w 1 (.slice a len cap) len (u32s l) := by
  obtain ⟨xs, h1, h2⟩ := rd_of_trod Try.underlying32 (by kernel_rfl : Try.prog.cellsOf 64 = 1) h
  obtain ⟨l, h3, h4, h5⟩ := pieces (fun c : UInt32 => [Value.int .u32 (c.toNat : Int)]) (fun _ => True) 1 len xs h1.1 (fun i hi => by
    obtain ⟨m, y, hy⟩ := h2 i hi
    obtain ⟨n, hn, _, hw⟩ := DataW.trod_int Try.underlying64 hy
    obtain ⟨c, rfl⟩ := wf_u32 hw
    exact ⟨c, hn, trivial⟩)
  rw [flatMap_single] at h4
  exact ⟨l, by unfold u32s; rw [← h4]; exact h1⟩
set_option maxRecDepth 100000 in
set_option maxHeartbeats 1600000 in
theorem ms_of_trod {m : Nat} {cs : List Value} {y : DataW H × List MemPlace} (h : DataW.trod enc Try.prog w 0 spare held m 36 cs = some y) :
    ∃ p : Ms, cs = p.cells ∧ MsOk w p := by
  obtain ⟨xs, n, _, _, hl, hlen, hf⟩ := DataW.trod_struct Try.underlying36 h
  have e17 : Try.prog.cellsOf 36 = 17 := by kernel_rfl
  have ei : Try.prog.cellsOf 3 = 1 := by kernel_rfl
  have ek : Try.prog.cellsOf 29 = 1 := by kernel_rfl
  have est : Try.prog.cellsOf 31 = 1 := by kernel_rfl
  have es : Try.prog.cellsOf 9 = 1 := by kernel_rfl
  have eb : Try.prog.cellsOf 4 = 1 := by kernel_rfl
  have ee : Try.prog.cellsOf 30 = 1 := by kernel_rfl
  have eu : Try.prog.cellsOf 32 = 1 := by kernel_rfl
  have el : Try.prog.cellsOf 34 = 4 := by kernel_rfl
  rw [e17] at hl
  match cs, hl, xs, hlen with
  | [u0, u1, u2, u3, u4, u5, u6, u7, u8, u9, u10, u11, u12, u13, u14, u15, u16], _, [y0, y1, y2, y3, y4, y5, y6, y7, y8, y9, y10, y11, y12, y13], _ =>
    have h0 := hf 0 _ rfl
    have h1 := hf 1 _ rfl
    have h2 := hf 2 _ rfl
    have h3 := hf 3 _ rfl
    have h4 := hf 4 _ rfl
    have h5 := hf 5 _ rfl
    have h6 := hf 6 _ rfl
    have h7 := hf 7 _ rfl
    have h8 := hf 8 _ rfl
    have h9 := hf 9 _ rfl
    have h10 := hf 10 _ rfl
    have h11 := hf 11 _ rfl
    have h12 := hf 12 _ rfl
    have h13 := hf 13 _ rfl
    simp only [ei, ek, est, es, eb, ee, el, List.drop_zero, List.take_succ_cons, List.take_zero, List.drop_succ_cons, List.getElem?_cons_zero, List.getElem?_cons_succ] at h0 h1 h2 h3 h4 h5 h6 h7 h8 h9 h10 h11 h12 h13
    obtain ⟨n0, c0, _, w0⟩ := DataW.trod_int Try.underlying29 h0
    obtain ⟨n1, c1, _, w1⟩ := DataW.trod_int Try.underlying3 h1
    obtain ⟨n2, c2, _, w2⟩ := DataW.trod_int Try.underlying3 h2
    obtain ⟨n3, c3, _, w3⟩ := DataW.trod_int Try.underlying3 h3
    obtain ⟨n4, c4, _, w4⟩ := DataW.trod_int Try.underlying3 h4
    obtain ⟨n5, c5, _, w5⟩ := DataW.trod_int Try.underlying3 h5
    obtain ⟨n6, c6, _, w6⟩ := DataW.trod_int Try.underlying3 h6
    obtain ⟨n7, c7, _, w7⟩ := DataW.trod_int Try.underlying3 h7
    obtain ⟨a8, n8, p8, c8, t8⟩ := slice_of_trod Try.underlying30 h8
    obtain ⟨es, r8, k8⟩ := ents_of_trod t8
    obtain ⟨b9, c9, _⟩ := DataW.trod_bool Try.underlying4 h9
    obtain ⟨n10, c10, _, w10⟩ := DataW.trod_int Try.underlying31 h10
    obtain ⟨z0, z1, z2, z3, nn, _, hl2, g0, g1, g2, g3⟩ := Go.Joins.trod_struct4 Try.underlying34 h11
    simp only [ei, eu, List.drop_zero, List.take_succ_cons, List.take_zero, List.drop_succ_cons] at g0 g1 g2 g3
    obtain ⟨n11, c11, _, w11⟩ := DataW.trod_int Try.underlying3 g0
    obtain ⟨n12, c12, _, w12⟩ := DataW.trod_int Try.underlying3 g1
    obtain ⟨n13, c13, _, w13⟩ := DataW.trod_int Try.underlying3 g2
    obtain ⟨a14, n14, p14, c14, t14⟩ := slice_of_trod Try.underlying32 g3
    obtain ⟨ss, r14⟩ := u32s_of_trod t14
    obtain ⟨n15, c15, _, w15⟩ := DataW.trod_int Try.underlying3 h12
    obtain ⟨⟨⟨d⟩⟩, c16, _, w16⟩ := DataW.trod_string Try.underlying9 h13
    cases c0; cases c1; cases c2; cases c3; cases c4; cases c5; cases c6; cases c7; cases c8; cases c9; cases c10; cases c11; cases c12; cases c13; cases c14; cases c15; cases c16
    exact ⟨⟨n0, n1, n2, n3, n4, n5, n6, n7, a8, n8, p8, b9, n10, n11, n12, n13, a14, n14, p14, n15, d⟩, rfl, es, ss,
      ⟨⟨wf_i64 w0, wf_i64 w1, wf_i64 w2, wf_i64 w3, wf_i64 w4, wf_i64 w5, wf_i64 w6, wf_i64 w7, wf_i64 w10, wf_i64 w11, wf_i64 w12, wf_i64 w13, wf_i64 w15⟩, w16, r8, k8, r14⟩⟩
theorem rd_msgs {a : Option Addr} {len cap : Nat} {d : DataW H} {ps : List MemPlace}
    (h : DataW.Trod enc Try.prog w 0 spare held 28 (.slice a len cap) d ps) :
    ∃ l : List Ms, Rd w 17 (.slice a len cap) len (l.flatMap Ms.cells) ∧ ∀ p ∈ l, MsOk w p := by
  obtain ⟨xs, h1, h2⟩ := rd_of_trod Try.underlying28 (by kernel_rfl : Try.prog.cellsOf 36 = 17) h
  obtain ⟨l, h3, h4, h5⟩ := pieces Ms.cells (MsOk w) 17 len xs h1.1 (fun i hi => by
    obtain ⟨m, y, hy⟩ := h2 i hi
    exact ms_of_trod hy)
  exact ⟨l, h4 ▸ h1, h5⟩
theorem msg_of_trod {r : Reach} {b0 : Nat} {v : Value} {d : DataW H} {ps : List MemPlace} (hv : Value.okWide Try.prog w r b0 36 v) (h : DataW.Trod enc Try.prog w 0 spare held 36 v d ps) :
    ∃ m : Ms, v = .agg m.cells.toArray ∧ MsOk w m := by
  obtain ⟨cs, rfl, hsz⟩ := okWide_struct Try.underlying36 hv
  obtain ⟨cs⟩ := cs
  obtain ⟨m, hf⟩ := h
  obtain ⟨p, h1, h2⟩ := ms_of_trod hf
  exact ⟨p, by simpa [Value.cells] using h1, h2⟩
end Go.Proofs.Ytaekkkcgoegllaa
