/- PlogBlocks holds: for every input the call returns true, and the arguments read as they did. No condition. -/
import Derived.Test.YtmjgbkepngeckaaArgs
import Derived.Test.YtmjgbkepngeckaaEntries
import Derived.Deep.Strs
import Derived.Lib.SmallJoins
import Derived.Test.YtmjgbkepngeckaaDo6
namespace Go.Proofs.Ytmjgbkepngeckaa
open Go.ChangeShapes Go.WideShapes Go.ChangeAt Go.RowKit Go.Deep
set_option linter.unusedVariables false
set_option linter.unusedSimpArgs false

structure A6 where
  k : Int
  n : Int
  t : Int
  b : Int
  f : Int
  d : List UInt8
  fa : Option Addr
  fl : Nat
  fc : Nat
def A6.cells (x : A6) : List Value := actC x.k x.n x.t x.b x.f x.d (.slice x.fa x.fl x.fc)
theorem a6cells_len (x : A6) : x.cells.length = 7 := rfl
/-- Its fates read. -/
def A6.ok (w : World) (x : A6) : Prop := x.d.length ≤ maxLen ∧ ∃ fs : List Int, Rd w 1 (.slice x.fa x.fl x.fc) x.fl (fs.map (Value.int .i64))
def A6.few (x : A6) : Prop := x.d.length ≤ 200 ∧ x.fl ≤ 40
instance (x : A6) : Decidable x.few := inferInstanceAs (Decidable (_ ∧ _))

variable {H : Type} {enc : TypeId × Value → H} {w : World} {spare : Nat → Bool} {held : Bool}
theorem slice_of_trod6 {P : Program} {t e : TypeId} {m : Nat} {u : Value} {y : DataW H × List MemPlace} (ht : P.underlying t = some (.slice e)) (h : DataW.trod enc P w 0 spare held m t [u] = some y) :
    ∃ a n c, u = .slice a n c ∧ DataW.Trod enc P w 0 spare held t (.slice a n c) y.1 y.2 := by
  rcases DataW.trod_slice ht h with ⟨h0, _⟩ | ⟨a', len', cap', elems, rest, n, _, hcs, _⟩
  · simp at h0; subst h0
    exact ⟨none, 0, 0, rfl, m, h⟩
  · simp at hcs; subst hcs
    exact ⟨some a', len', cap', rfl, m, h⟩
set_option maxRecDepth 100000 in
theorem a6_of_trod {m : Nat} {cs : List Value} {y : DataW H × List MemPlace} (h : DataW.trod enc Try.prog w 0 spare held m 29 cs = some y) :
    ∃ p : A6, cs = p.cells ∧ p.ok w := by
  obtain ⟨xs, n, _, _, hl, hlen, hf⟩ := DataW.trod_struct Try.underlying29 h
  have e7 : Try.prog.cellsOf 29 = 7 := by kernel_rfl
  have ei : Try.prog.cellsOf 3 = 1 := by kernel_rfl
  have es : Try.prog.cellsOf 9 = 1 := by kernel_rfl
  have ef : Try.prog.cellsOf 27 = 1 := by kernel_rfl
  rw [e7] at hl
  match cs, hl, xs, hlen with
  | [u0, u1, u2, u3, u4, u5, u6], _, [y0, y1, y2, y3, y4, y5, y6], _ =>
    have h0 := hf 0 _ rfl
    have h1 := hf 1 _ rfl
    have h2 := hf 2 _ rfl
    have h3 := hf 3 _ rfl
    have h4 := hf 4 _ rfl
    have h5 := hf 5 _ rfl
    have h6 := hf 6 _ rfl
    simp only [ei, es, ef, List.drop_zero, List.take_succ_cons, List.take_zero, List.drop_succ_cons, List.getElem?_cons_zero, List.getElem?_cons_succ] at h0 h1 h2 h3 h4 h5 h6
    obtain ⟨n0, c0, _, w0⟩ := DataW.trod_int Try.underlying3 h0
    obtain ⟨n1, c1, _, w1⟩ := DataW.trod_int Try.underlying3 h1
    obtain ⟨n2, c2, _, w2⟩ := DataW.trod_int Try.underlying3 h2
    obtain ⟨n3, c3, _, w3⟩ := DataW.trod_int Try.underlying3 h3
    obtain ⟨n4, c4, _, w4⟩ := DataW.trod_int Try.underlying3 h4
    obtain ⟨⟨⟨d⟩⟩, c5, _, w5⟩ := DataW.trod_string Try.underlying9 h5
    obtain ⟨fa, fl, fc, c6, t6⟩ := slice_of_trod6 Try.underlying27 h6
    obtain ⟨fs, hfs, _⟩ := rd_ints Try.underlying27 Try.underlying70 (by kernel_rfl) t6
    cases c0; cases c1; cases c2; cases c3; cases c4; cases c5; cases c6
    exact ⟨⟨n0, n1, n2, n3, n4, d, fa, fl, fc⟩, rfl, w5, fs, hfs⟩
theorem rd_acts6 {a : Option Addr} {len cap : Nat} {d : DataW H} {ps : List MemPlace}
    (h : DataW.Trod enc Try.prog w 0 spare held 22 (.slice a len cap) d ps) :
    ∃ l : List A6, Rd w 7 (.slice a len cap) len (l.flatMap A6.cells) ∧ ∀ p ∈ l, p.ok w := by
  obtain ⟨xs, h1, h2⟩ := rd_of_trod Try.underlying22 (by kernel_rfl : Try.prog.cellsOf 29 = 7) h
  obtain ⟨l, h3, h4, h5⟩ := pieces A6.cells (A6.ok w) 7 len xs h1.1 (fun i hi => by
    obtain ⟨m, y, hy⟩ := h2 i hi
    exact a6_of_trod hy)
  exact ⟨l, h4 ▸ h1, h5⟩
/-- What Few answers. -/
def FewR (al : List A6) (len : Nat) (e : Ending) : Prop := ∃ r : Bool, e = .returned (.bool r) ∧ (r = true → len ≤ 30 ∧ ∀ p ∈ al, p.few)
set_option maxRecDepth 100000 in
set_option maxHeartbeats 3200000 in
theorem few6_any (al : List A6) (a : Option Addr) (len cap : Nat) (w0 : World) (hR : Rd w0 7 (.slice a len cap) len (al.flatMap A6.cells)) (hok : ∀ p ∈ al, p.d.length ≤ maxLen ∧ p.fl ≤ maxLen) (w : World) (hx0 : Ext [] w0 w) :
    Calls Try.prog 12 #[.slice a len cap] w fun e w' => FewR al len e ∧ Ext [] w w' := by
  have hl : al.length = len := by have := hR.len.2.2.2; rw [flatMap_len _ 7 a6cells_len] at this; omega
  have hlm : len ≤ 9223372036854775807 := by have := hR.len; unfold maxLen at this; omega
  have HR := Hid.of hR
  have HL := Hid.of hl
  have HOk := Hid.of hok
  have HX0 := Hid.of hx0
  clear hR hl hok hx0
  go_enter Try.func12, Try.ntmps12
  go_upto_region 2 with fail
  go_loopw [7] (fun u7 wr => ∃ (j : Nat), u7 = .int .i64 (j : Int) ∧ j ≤ len ∧ Hid (∀ p ∈ al.take j, p.few) ∧ Hid (Ext [] w wr)) (fun u7 _ => len - (intOf u7).toNat)
  case atStart => exact ⟨0, rfl, by omega, fun p hp => by simp at hp, Ext.refl _ _⟩
  case round =>
    obtain ⟨j, rfl, hj, hF, hX⟩ := hrel
    by_cases hjl : j < len
    · have hRr := HR.out.keep (HX0.out.then0 hX.out) (by simp)
      obtain ⟨g, off, rfl, hgw, hc⟩ := hRr.view (by omega)
      have hje : j < al.length := by have := HL.out; omega
      have cc : ∀ i : Nat, i < 7 → wr.cell? ⟨g, off + (j * 7 + i), none⟩ = al[j].cells[i]? := fun i hi => by
        have h1 := flatMap_get A6.cells 7 a6cells_len al j i hje hi
        have h2 : al[j].cells[i]? = some (al[j].cells[i]'(by rw [a6cells_len]; exact hi)) := List.getElem?_eq_getElem _
        rw [h2] at h1 ⊢
        exact hc _ _ h1
      have hokj := HOk.out al[j] (List.getElem_mem _)
      have hnx : (∀ p ∈ al.take j, p.few) → al[j].few → ∀ p ∈ al.take (j + 1), p.few := by
        intro h1 h2 p hp
        rw [List.take_add_one, List.getElem?_eq_getElem hje] at hp
        rcases List.mem_append.1 hp with h | h
        · exact h1 p h
        · simp at h; rw [h]; exact h2
      obtain ⟨x, hx⟩ : ∃ x, x = al[j] := ⟨_, rfl⟩
      rw [← hx] at cc hokj hnx
      have HNx := Hid.of hnx
      obtain ⟨xk, xn, xt, xb, xf, xd, fa, fl, fc⟩ := x
      obtain ⟨k1, k2⟩ := hokj
      simp only at k1 k2
      unfold maxLen at k1 k2
      have c0 : wr.cell? ⟨g, off + j * 7, none⟩ = some (.int .i64 xk) := cc 0 (by omega)
      have c1 : wr.cell? ⟨g, off + (j * 7 + 1), none⟩ = some (.int .i64 xn) := cc 1 (by omega)
      have c2 : wr.cell? ⟨g, off + (j * 7 + 2), none⟩ = some (.int .i64 xt) := cc 2 (by omega)
      have c3 : wr.cell? ⟨g, off + (j * 7 + 3), none⟩ = some (.int .i64 xb) := cc 3 (by omega)
      have c4 : wr.cell? ⟨g, off + (j * 7 + 4), none⟩ = some (.int .i64 xf) := cc 4 (by omega)
      have c5 : wr.cell? ⟨g, off + (j * 7 + 5), none⟩ = some (.string ⟨xd.toArray⟩) := cc 5 (by omega)
      have c6 : wr.cell? ⟨g, off + (j * 7 + 6), none⟩ = some (.slice fa fl fc) := cc 6 (by omega)
      rw [← Nat.add_assoc] at c1 c2 c3 c4 c5 c6
      clear hx cc hnx hc hgw hRr
      have HXn := Hid.of (hX.out.alloc (.cells #[.int .i64 xk, .int .i64 xn, .int .i64 xt, .int .i64 xb, .int .i64 xf, .string ⟨xd.toArray⟩, .slice fa fl fc] 29))
      by_cases b1 : 200 < (xd.length : Int)
      · clear HNx
        go_wp2
        go_ret
        exact ⟨⟨false, rfl, fun h => (by cases h)⟩, HXn.out⟩
      · by_cases b2 : 40 < (fl : Int)
        · clear HNx
          go_wp2
          go_ret
          exact ⟨⟨false, rfl, fun h => (by cases h)⟩, HXn.out⟩
        · have HF2 := Hid.of (HNx.out hF.out ⟨by show xd.length ≤ 200; omega, by show fl ≤ 40; omega⟩)
          clear HNx
          go_wp2
          exact ⟨⟨j + 1, by congr 1, by omega, HF2, HXn⟩, by simp [intOf]; omega⟩
    · obtain rfl : j = len := by omega
      go_wp2
      go_ret
      refine ⟨⟨_, rfl, fun h => ⟨?_, ?_⟩⟩, hX.out⟩
      · have := of_decide_eq_true h; omega
      · have := hF.out
        rwa [List.take_of_length_le (by have := HL.out; omega)] at this
end Go.Proofs.Ytmjgbkepngeckaa
namespace Go.Proofs.Ytmjgbkepngeckaa
open Go.RowKit
set_option linter.unusedVariables false
set_option linter.unusedSimpArgs false

section
variable {w0 w : World} {wq b q : Nat} {first : Int} {va vm : Value} {all : List Ent} {O : List Nat}
theorem St.sreadA (h : St w0 w wq b q first va vm all O) (k : Nat) (hk : k < all.length) : Calls Try.prog 15 #[.pointer (some ⟨b, 0, none⟩), .int .i64 (3 + (first + k) % 8)] w fun e w' => e = .returned (.tuple #[(⟨2, all[k].idx, all[k].term, all[k].data⟩ : Rc).val, .int .i64 1, .int .i64 0]) ∧ Ext [] w w' := by
  obtain ⟨L, V, h1, h2, e1, h3, h4⟩ := h
  have hat := (h2.at k hk).1
  have ha : L.a (L.first + k) = 3 + (first + k) % 8 := by unfold Lg.a; rw [e1, h3, h4]
  rw [ha] at hat
  have := h1.log.dev.sread (3 + (first + k) % 8) (by omega) (by omega)
  rw [hat] at this
  exact this
theorem St.sreadB (h : St w0 w wq b q first va vm all O) (k : Nat) (hk : k < all.length) : Calls Try.prog 15 #[.pointer (some ⟨b, 0, none⟩), .int .i64 (11 + (first + k) % 8)] w fun e w' => e = .returned (.tuple #[(⟨3, all[k].idx, all[k].term, []⟩ : Rc).val, .int .i64 1, .int .i64 0]) ∧ Ext [] w w' := by
  obtain ⟨L, V, h1, h2, e1, h3, h4⟩ := h
  have hat := (h2.at k hk).2
  have ha : L.b (L.first + k) = 11 + (first + k) % 8 := by unfold Lg.b; rw [e1, h3, h4]; omega
  rw [ha] at hat
  have := h1.log.dev.sread (11 + (first + k) % 8) (by omega) (by omega)
  rw [hat] at this
  exact this
end
set_option maxRecDepth 100000 in
set_option maxHeartbeats 12800000 in
theorem pblocks_any {w0 : World} (a : Option Addr) (len cap : Nat) (al : List A6) (hR : Rd w0 7 (.slice a len cap) len (al.flatMap A6.cells)) (hok : ∀ p ∈ al, p.ok w0) :
    Calls Try.prog 3 #[.slice a len cap] w0 fun e w' => e = .returned (.bool true) ∧ Ext [] w0 w' := by
  have hl : al.length = len := by have := hR.len.2.2.2; rw [flatMap_len _ 7 a6cells_len] at this; omega
  have hok2 : ∀ p ∈ al, p.d.length ≤ maxLen ∧ p.fl ≤ maxLen := fun p hp => by
    obtain ⟨h1, fs, h2⟩ := hok p hp
    exact ⟨h1, by have := h2.len; omega⟩
  have cfew := fun w (hx : Ext [] w0 w) => few6_any al a len cap w0 hR hok2 w hx
  have HR := Hid.of hR
  have HOk := Hid.of hok
  have HL := Hid.of hl
  clear hR hok hl hok2
  go_enter Try.func3, Try.ntmps3
  go_upto_region 3 with (first
    | (go_at_call 11; (with_reducible refine (head6_any _).mono ?_); rintro e w1 ⟨rfl, hx1⟩; have cf1 := cfew w1 hx1; have HX1 := Hid.of hx1; clear hx1 cfew))
  go_upto_if 19 with (first
    | (go_at_call 12; (with_reducible refine cf1.mono ?_); rintro e w2 ⟨⟨r, rfl, hr⟩, hx2⟩; have HX2 := Hid.of (HX1.out.then0 hx2); have HFw := Hid.of hr; clear hr hx2 cf1))
  cases r with
  | false =>
    go_wp2
    go_ret
    exact ⟨rfl, HX2.out⟩
  | true =>
    have HFew := Hid.of (HFw.out rfl)
    have hl30 := HFew.out.1
    have cn := neww w0 w2 HX2.out [] (by simp)
    clear HFw
    go_upto_region 8 with (first
      | (go_at_call 13; (with_reducible refine cn.mono ?_); intro e w3 hq; obtain ⟨wq, b, q, rfl, hst, hk⟩ := NewW.st hq; have HS3 : Hid (RSt w0 w3 wq b q 1 (.slice none 0 0) [] [] none 0) := Hid.of ⟨hst, Rd.nil _ _⟩; clear hq hst hk cn))
    go_upto_region 9 with fail
    go_loopw [25] (fun u25 wr => ∃ (j : Nat) (first : Int) (vm : Value) (all : List Ent) (b' q' : Nat) (a' : Option Addr) (cap' : Nat), u25 = .int .i64 (j : Int) ∧ j ≤ len ∧ 1 ≤ first ∧ first ≤ 1 + 3 * (j : Int) ∧ Hid (AllOk all) ∧ Hid (RSt w0 wr wq b' q' first vm all [] a' cap')) (fun u25 _ => len - (intOf u25).toNat)
    case atStart => exact ⟨0, 1, _, [], b, q, none, 0, rfl, by omega, by omega, by omega, fun e he => by simp at he, HS3⟩
    case round =>
      obtain ⟨j, first, vm, all, b', q', a', cap', rfl, hj, hf1, hf2, hAO, hS⟩ := hrel
      by_cases hjl : j < len
      · have hRr := HR.out.keep hS.out.1.ext (by simp)
        obtain ⟨g, off, rfl, hgw, hc⟩ := hRr.view (by omega)
        have hje : j < al.length := by have := HL.out; omega
        have cc : ∀ i : Nat, i < 7 → wr.cell? ⟨g, off + (j * 7 + i), none⟩ = al[j].cells[i]? := fun i hi => by
          have h1 := flatMap_get A6.cells 7 a6cells_len al j i hje hi
          have h2 : al[j].cells[i]? = some (al[j].cells[i]'(by rw [a6cells_len]; exact hi)) := List.getElem?_eq_getElem _
          rw [h2] at h1 ⊢
          exact hc _ _ h1
        have hokj := HOk.out al[j] (List.getElem_mem _)
        have hfj := HFew.out.2 al[j] (List.getElem_mem _)
        obtain ⟨x, hx⟩ : ∃ x, x = al[j] := ⟨_, rfl⟩
        rw [← hx] at cc hokj hfj
        obtain ⟨xk, xn, xt, xb, xf, xd, fa, fl, fc⟩ := x
        obtain ⟨k1, fs, k2⟩ := hokj
        have hd200 := hfj.1
        simp only at k2 hd200
        have c0 : wr.cell? ⟨g, off + j * 7, none⟩ = some (.int .i64 xk) := cc 0 (by omega)
        have c1 : wr.cell? ⟨g, off + (j * 7 + 1), none⟩ = some (.int .i64 xn) := cc 1 (by omega)
        have c2 : wr.cell? ⟨g, off + (j * 7 + 2), none⟩ = some (.int .i64 xt) := cc 2 (by omega)
        have c3 : wr.cell? ⟨g, off + (j * 7 + 3), none⟩ = some (.int .i64 xb) := cc 3 (by omega)
        have c4 : wr.cell? ⟨g, off + (j * 7 + 4), none⟩ = some (.int .i64 xf) := cc 4 (by omega)
        have c5 : wr.cell? ⟨g, off + (j * 7 + 5), none⟩ = some (.string ⟨xd.toArray⟩) := cc 5 (by omega)
        have c6 : wr.cell? ⟨g, off + (j * 7 + 6), none⟩ = some (.slice fa fl fc) := cc 6 (by omega)
        rw [← Nat.add_assoc] at c1 c2 c3 c4 c5 c6
        have hgl : g < wr.heap.size := World.block_lt_of_cell? wr ⟨g, off + j * 7, none⟩ c0
        obtain ⟨P, hP⟩ : ∃ x, x = wr.heap.size := ⟨_, rfl⟩
        obtain ⟨Wp, hWp⟩ : ∃ W, W = wr.alloc (.cells #[.int .i64 xk, .int .i64 xn, .int .i64 xt, .int .i64 xb, .int .i64 0, .string ⟨xd.toArray⟩, .slice fa fl fc] 29) := ⟨_, rfl⟩
        have hxp : Ext [] wr Wp := by rw [hWp]; exact (Ext.refl _ _).alloc _
        have hPB : Blk Wp P 29 [.int .i64 xk, .int .i64 xn, .int .i64 xt, .int .i64 xb, .int .i64 0, .string ⟨xd.toArray⟩, .slice fa fl fc] := by rw [hP, hWp]; exact Blk.new wr 29 #[.int .i64 xk, .int .i64 xn, .int .i64 xt, .int .i64 xb, .int .i64 0, .string ⟨xd.toArray⟩, .slice fa fl fc]
        have cD := do_c (hS.out.keep hxp) hAO.out (by omega) xk xn xt xb xd hd200 fa fl fc fs k2
        unfold actC at cD
        have HPB := Hid.of hPB
        clear hx cc hc hgw hRr hfj k1 k2 hPB hxp
        go_upto_region 12 with fail
        rw [← hP, ← hWp]
        clear hP hWp c0 c1 c2 c3 c4 c5 c6
        have e0 : Wp.cell? ⟨P, 0, none⟩ = some (.int .i64 xk) := Blk.c HPB.out 0
        have e1 : Wp.cell? ⟨P, 1, none⟩ = some (.int .i64 xn) := Blk.c HPB.out 1
        have e2 : Wp.cell? ⟨P, 2, none⟩ = some (.int .i64 xt) := Blk.c HPB.out 2
        have e3 : Wp.cell? ⟨P, 3, none⟩ = some (.int .i64 xb) := Blk.c HPB.out 3
        have e4 : Wp.cell? ⟨P, 4, none⟩ = some (.int .i64 0) := Blk.c HPB.out 4
        have e5 : Wp.cell? ⟨P, 5, none⟩ = some (.string ⟨xd.toArray⟩) := Blk.c HPB.out 5
        have e6 : Wp.cell? ⟨P, 6, none⟩ = some (.slice fa fl fc) := Blk.c HPB.out 6
        go_wp2_with (first
          | (go_at_call 14; (with_reducible refine cD.mono ?_); rintro e w5 ⟨rfl, b5, q5, first5, vm5, all5, a5, cap5, hS5, hA5, g1, g2⟩; have HS5 := Hid.of hS5; have HA5 := Hid.of hA5; clear hS5 hA5 cD))
        exact ⟨⟨j + 1, first5, vm5, all5, b5, q5, a5, cap5, by congr 1, by omega, by omega, by omega, HA5, HS5⟩, by simp [intOf]; omega⟩
      · obtain rfl : j = len := by omega
        obtain ⟨M, hM⟩ : ∃ x, x = all.length := ⟨_, rfl⟩
        have hSt := hS.out.1
        have hRd := hS.out.2
        rw [← hM] at hSt hRd
        have hbw := hSt.blk
        have c3 : wr.cell? ⟨wq, 3, none⟩ = some (.slice a' M cap') := Blk.c hbw 3
        have HRd := Hid.of hRd
        have HSt := Hid.of hSt
        have HM := Hid.of hM
        have hM8 := hSt.len
        rw [← hM] at hM8
        clear hbw hRd hSt hM hS
        obtain ⟨w6, hw6⟩ : ∃ x, x = wr := ⟨_, rfl⟩
        rw [← hw6] at HRd HSt c3 ⊢
        clear hw6
        go_upto_region 16 with fail
        go_loopw [40] (fun u40 wx => ∃ (i : Nat), u40 = .int .i64 (i : Int) ∧ i ≤ M ∧ Hid (Ext [] w6 wx)) (fun u40 _ => M - (intOf u40).toNat)
        case atStart => exact ⟨0, rfl, by omega, Ext.refl _ _⟩
        case round =>
          obtain ⟨i, rfl, hi, hX⟩ := hrel
          clear c3
          by_cases hil : i < M
          · have hRr := HRd.out.keep hX.out (by simp)
            have hSr := HSt.out.keep hX.out
            obtain ⟨g, off, rfl, hgw, hc⟩ := hRr.view (by omega)
            have hje : i < all.length := by have := HM.out; omega
            have c0 : wr.cell? ⟨g, off + i * 3, none⟩ = some (.int .i64 all[i].idx) := hc (i * 3 + 0) _ (by rw [flatMap_get _ 3 ecells_len _ i 0 hje (by omega)]; rfl)
            have c1 : wr.cell? ⟨g, off + (i * 3 + 1), none⟩ = some (.int .i64 all[i].term) := hc (i * 3 + 1) _ (by rw [flatMap_get _ 3 ecells_len _ i 1 hje (by omega)]; rfl)
            have c2 : wr.cell? ⟨g, off + (i * 3 + 2), none⟩ = some (str all[i].data) := hc (i * 3 + 2) _ (by rw [flatMap_get _ 3 ecells_len _ i 2 hje (by omega)]; rfl)
            rw [← Nat.add_assoc] at c1 c2
            have hidx := HSt.out.idx i hje
            have kA := fun w' (hx : Ext [] w6 w') => (HSt.out.keep hx).sreadA i hje
            have kB := fun w' (hx : Ext [] w6 w') => (HSt.out.keep hx).sreadB i hje
            rw [hidx] at c0 kA kB
            obtain ⟨Pm, hPm⟩ : ∃ x, x = (first + (i : Int)) % 8 := ⟨_, rfl⟩
            have hP0 : 0 ≤ Pm ∧ Pm < 8 := by rw [hPm]; exact ⟨Int.emod_nonneg _ (by decide), Int.emod_lt_of_pos _ (by decide)⟩
            have htm : (first + (i : Int)).tmod 8 = Pm := by rw [hPm]; exact Int.tmod_eq_emod_of_nonneg (by omega)
            rw [← hPm] at kA kB
            obtain ⟨hP1, hP2⟩ := hP0
            obtain ⟨e, he⟩ : ∃ e, e = all[i] := ⟨_, rfl⟩
            rw [← he] at c1 c2 kA kB
            obtain ⟨xi, xt, xd⟩ := e
            simp only [Rc.val] at c1 c2 kA kB
            obtain ⟨E, hE⟩ : ∃ x, x = wr.heap.size := ⟨_, rfl⟩
            obtain ⟨W, hW⟩ : ∃ W, W = wr.alloc (.cells #[.int .i64 (first + (i : Int)), .int .i64 xt, .string ⟨xd.toArray⟩] 37) := ⟨_, rfl⟩
            have HEW : Hid (Blk W E 37 [.int .i64 (first + (i : Int)), .int .i64 xt, str xd]) := Hid.of (by rw [hE, hW]; exact Blk.new wr 37 #[.int .i64 (first + (i : Int)), .int .i64 xt, str xd])
            have HXW : Hid (Ext [] w6 W) := Hid.of (by rw [hW]; exact hX.out.alloc _)
            clear he hidx hRr hSr hgw hc hPm
            go_upto_region 18 with fail
            rw [← hE, ← hW]
            clear hE hW c0 c1 c2 hX
            have d2 : W.cell? ⟨wq, 2, none⟩ = some (.int .i64 first) := Blk.c (HSt.out.keep HXW.out).blk 2
            have d0 : W.cell? ⟨wq, 0, none⟩ = some (.pointer (some ⟨b', 0, none⟩)) := Blk.c (HSt.out.keep HXW.out).blk 0
            have kAW := kA W HXW.out
            clear kA
            go_upto_region 20 with (first
              | (go_at_call 15; (with_reducible refine kAW.mono ?_); rintro e w7 ⟨rfl, hx7⟩; have HX7 := Hid.of ((HXW.out.then0 hx7).alloc (.cells #[.int .i64 2, .int .i64 (first + (i : Int)), .int .i64 xt, .string ⟨xd.toArray⟩] 39)); have HE7 := Hid.of ((Blk.keep HEW.out hx7 List.not_mem_nil).alloc (.cells #[.int .i64 2, .int .i64 (first + (i : Int)), .int .i64 xt, .string ⟨xd.toArray⟩] 39)); clear hx7 kAW))
            obtain ⟨w8, hw8⟩ : ∃ W, W = w7.alloc (.cells #[.int .i64 2, .int .i64 (first + (i : Int)), .int .i64 xt, .string ⟨xd.toArray⟩] 39) := ⟨_, rfl⟩
            have HG8 : Hid (Blk w8 w7.heap.size 39 [.int .i64 2, .int .i64 (first + (i : Int)), .int .i64 xt, .string ⟨xd.toArray⟩]) := Hid.of (by rw [hw8]; exact Blk.new w7 39 #[.int .i64 2, .int .i64 (first + (i : Int)), .int .i64 xt, .string ⟨xd.toArray⟩])
            rw [← hw8] at HX7 HE7 ⊢
            clear hw8 d0 d2
            generalize w7.heap.size = G at HG8 ⊢
            have d0 : w8.cell? ⟨wq, 0, none⟩ = some (.pointer (some ⟨b', 0, none⟩)) := Blk.c (HSt.out.keep HX7.out).blk 0
            have kBW := kB w8 HX7.out
            clear kB
            go_upto_region 21 with (first
              | (go_at_call 15; (with_reducible refine kBW.mono ?_); rintro e w9 ⟨rfl, hx9⟩; have HX9 := Hid.of ((HX7.out.then0 hx9).alloc (.cells #[.int .i64 3, .int .i64 (first + (i : Int)), .int .i64 xt, .string ⟨#[]⟩] 39)); have HE9 := Hid.of ((Blk.keep HE7.out hx9 List.not_mem_nil).alloc (.cells #[.int .i64 3, .int .i64 (first + (i : Int)), .int .i64 xt, .string ⟨#[]⟩] 39)); have HG9 := Hid.of ((Blk.keep HG8.out hx9 List.not_mem_nil).alloc (.cells #[.int .i64 3, .int .i64 (first + (i : Int)), .int .i64 xt, .string ⟨#[]⟩] 39)); clear hx9 kBW))
            obtain ⟨w10, hw10⟩ : ∃ W, W = w9.alloc (.cells #[.int .i64 3, .int .i64 (first + (i : Int)), .int .i64 xt, .string ⟨#[]⟩] 39) := ⟨_, rfl⟩
            have HH : Hid (Blk w10 w9.heap.size 39 [.int .i64 3, .int .i64 (first + (i : Int)), .int .i64 xt, .string ⟨#[]⟩]) := Hid.of (by rw [hw10]; exact Blk.new w9 39 #[.int .i64 3, .int .i64 (first + (i : Int)), .int .i64 xt, .string ⟨#[]⟩])
            rw [← hw10] at HX9 HE9 HG9 ⊢
            clear hw10 d0
            generalize w9.heap.size = Hh at HH ⊢
            have e1 : w10.cell? ⟨E, 1, none⟩ = some (.int .i64 xt) := Blk.c HE9.out 1
            have e2 : w10.cell? ⟨E, 2, none⟩ = some (.string ⟨xd.toArray⟩) := Blk.c HE9.out 2
            have g0 : w10.cell? ⟨G, 0, none⟩ = some (.int .i64 2) := Blk.c HG9.out 0
            have g1 : w10.cell? ⟨G, 1, none⟩ = some (.int .i64 (first + (i : Int))) := Blk.c HG9.out 1
            have g2 : w10.cell? ⟨G, 2, none⟩ = some (.int .i64 xt) := Blk.c HG9.out 2
            have g3 : w10.cell? ⟨G, 3, none⟩ = some (.string ⟨xd.toArray⟩) := Blk.c HG9.out 3
            have h0 : w10.cell? ⟨Hh, 0, none⟩ = some (.int .i64 3) := Blk.c HH.out 0
            have h1 : w10.cell? ⟨Hh, 1, none⟩ = some (.int .i64 (first + (i : Int))) := Blk.c HH.out 1
            have h2 : w10.cell? ⟨Hh, 2, none⟩ = some (.int .i64 xt) := Blk.c HH.out 2
            have h3 : w10.cell? ⟨Hh, 3, none⟩ = some (.string ⟨#[]⟩) := Blk.c HH.out 3
            go_wp2
            exact ⟨⟨i + 1, by congr 1, by omega, HX9⟩, by simp [intOf]; omega⟩
          · obtain rfl : i = M := by omega
            go_wp2
            go_ret
            exact ⟨rfl, HSt.out.ext.then0 hX.out⟩
end Go.Proofs.Ytmjgbkepngeckaa
namespace Go.Proofs.Ytmjgbkepngeckaa.plogBlocks
open Go.ChangeShapes Go.WideShapes Go.ChangeAt Go.RowKit
open Go.ChangeMaps (open_string shut_string)
set_option linter.unusedVariables false

set_option maxRecDepth 100000 in
theorem lifted (os : Go.Os) (started : os.Started) (H : Type) (enc : TypeId × Value → H) :
    ReturnsInHanded {} Try.checked os 3 .any (Rows.plogBlocksSpec.pre6 enc Try.prog Try.f3 Rows.plogBlocksRow.domain false) (Rows.plogBlocksSpec.post enc Try.prog Try.f3 false true false false) := by
  refine returnsInHanded_of_change (C := Try.checked) Try.own started (by kernel_rfl) Try.func3
    (ChangeSpec.witness6 (enc := enc) (C := Try.checked) false ⟨#[], #[.slice none 0 0], []⟩ 8 (by kernel_rfl) (by kernel_rfl) (by kernel_rfl) (by kernel_rfl)) ?_
  intro W base args ds gs before hval0 hW hcnd _
  have hval : ∀ (j : Nat) t v, Try.f3.params[j]? = some t → args[j]? = some v → Value.okWide Try.prog W .any base t v := hval0
  have hW' := hW
  obtain ⟨p, q, hA0, hV, rfl, hfz, hnd⟩ := hW
  have hA : DataW.TrodAll enc Try.prog W 0 (fun _ => true) true Try.f3.params.toList args.toList ds p := hA0
  rw [Try.params3] at hA hval
  obtain ⟨v0, vs0, d0, ds0, p0, q0, hargs, rfl, rfl, h0, r0⟩ := trodAll_cons hA
  obtain ⟨rfl, rfl, rfl⟩ := trodAll_nil r0
  obtain rfl : args = #[v0] := by cases args; simp_all
  obtain ⟨rfl, rfl⟩ := trodVars_none hV
  have k0 := h0
  have lt0 : ∀ x ∈ p0, x.block < W.heap.size := by obtain ⟨m, hm⟩ := k0; exact DataW.trod_lt m _ _ _ hm
  obtain ⟨a0, len0, cap0, rfl⟩ := okWide_slice Try.underlying22 (hval 0 22 v0 rfl rfl)
  obtain ⟨z0, w0, u0⟩ := rd_acts6 h0
  clear hA0 hval0
  refine (pblocks_any a0 len0 cap0 z0 w0 u0).mono fun e W' ⟨he, hx⟩ => ?_
  subst he
  have bel : Below W.heap.size W W' := hx.below (by simp)
  exact ⟨_, rfl, _, _, _, [], _, [], hW', trodAll_mk1 (shut_bool Try.underlying4 _), (trodAll_cons_mk (Below.trod Try.laidOut (by kernel_rfl) (of_decide_eq_true (by kernel_rfl)) k0 bel lt0) trodAll_mk0), rfl, bel.frame _, fun h => by cases h⟩

theorem proved : Rows.PlogBlocksSaid :=
  OpenClaim.holds_of_wide 3 Try.f3 rfl rfl rfl rfl rfl rfl rfl ⟨rfl, rfl, rfl, rfl, rfl⟩ rfl rfl rfl rfl rfl (by kernel_rfl) Try.func3 (by kernel_rfl)
    (of_decide_eq_true (by kernel_rfl)) (by unfold Func.isWrapper; first | (rw [if_pos (by decide +kernel)]; kernel_rfl) | (rw [if_neg (by decide +kernel)]; exact ⟨rfl, rfl⟩))
    (fun os started H enc _ => lifted os started H enc)
#print axioms proved
end Go.Proofs.Ytmjgbkepngeckaa.plogBlocks
