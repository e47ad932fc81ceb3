/- ChunkAreas: the walk. -/
import Derived.Test.YtlnfigbcdmfmdaaChkr
import Derived.Test.YtlnfigbcdmfmdaaArgs
namespace Go.Proofs.Ytlnfigbcdmfmdaa
open Go.RowKit
set_option linter.unusedVariables false
set_option linter.unusedSimpArgs false
theorem i64_and2047 (n : Int) : bits .and .i64 n 2047 = n % 2048 := i64_mask n 2047 11 (by decide) (by decide)
attribute [local go_sem] i64_and2047

section
variable {base : Int} {V : Int → Sl} {s : Sto} {x : Shot} {i t : Int} {d : List UInt8} {D : Dv} {n : Int}
theorem Good.putG (h : Good base V s x) (hf : Fine0 D n V) (hb : 0 ≤ base) (hn : base + 132 ≤ n) (hi : x.i < i) (hr : (ofL i t d).right) :
    ∃ D', putX s i t d D = (0, D', putS s (ofL i t d)) ∧ Fine0 D' n (putsV [chW s (putA s) i d, [copR s (putA s) (ofL i t d) 0], [copR s (putA s) (ofL i t d) 1]].flatten V) := by
  have hl := put_lists h hb hn hr
  obtain ⟨e1, e2⟩ := hf.fine.runs _ hl
  have h0 : 0 ≤ n := by omega
  refine ⟨(putR s i t d D).2, ?_, ⟨e2, ?_⟩⟩
  · unfold putX
    rw [if_pos (h.ok hi hr)]
    have e : (putR s i t d D).1 = 0 := e1
    rw [e, if_pos rfl]
  · rcases runs_crash _ hf.calm0 h0 hl [] with ⟨_, hc⟩ | ⟨hc, _⟩
    · exact hc.lost
    · rw [e1] at hc; exact absurd hc (by decide)
/-- With its list lost, the one ahead is there. -/
theorem Good.back (h : Good base V s x) (hi : x.i < i) (hr : (ofL i t d).right) :
    Good base (setF (setF (putsV [chW s (putA s) i d, [copR s (putA s) (ofL i t d) 0], [copR s (putA s) (ofL i t d) 1]].flatten V) (s.b (putA s) 0) (2, Rc.zero)) (s.b (putA s) 1) (2, Rc.zero)) s x := by
  have hA := h.areas
  have h64 := cut_right hr
  have e : [chW s (putA s) i d, [copR s (putA s) (ofL i t d) 0], [copR s (putA s) (ofL i t d) 1]].flatten = (chW s (putA s) i d ++ [copR s (putA s) (ofL i t d) 0]) ++ [copR s (putA s) (ofL i t d) 1] := by simp
  rw [e, putsV_snoc, putsV_snoc]
  have h0 : ∀ z, z ≠ s.b (putA s) 0 → z ≠ s.b (putA s) 1 → (∀ k : Nat, k < (cutL d).length → z ≠ s.b (putA s) (2 + (k : Int))) → setF (setF (setF (setF (putsV (chW s (putA s) i d) V) (s.b (putA s) 0) (1, recL (ofL i t d))) (s.b (putA s) 1) (1, recL (ofL i t d))) (s.b (putA s) 0) (2, Rc.zero)) (s.b (putA s) 1) (2, Rc.zero) z = V z := fun z h1 h2 h3 => by
    rw [setF_other _ _ _ _ h2, setF_other _ _ _ _ h1, setF_other _ _ _ _ h2, setF_other _ _ _ _ h1, putsW_out s (putA s) i d V z h3]
  refine h.keep (fun j hj => ?_) (fun k hk => ?_)
  · rw [cpy_b h.bas, cpy_b h.bas]
    by_cases e1 : s.b ((j / 2 : Nat) : Int) ((j % 2 : Nat) : Int) = s.b (putA s) 1
    · right
      have e2 := e1
      unfold Sto.b at e2
      rw [e1]
      refine ⟨?_, by omega⟩
      show ¬ (setF _ (s.b (putA s) 1) (2, Rc.zero) (s.b (putA s) 1)).1 = 1
      rw [setF_same]
      decide
    · by_cases e0 : s.b ((j / 2 : Nat) : Int) ((j % 2 : Nat) : Int) = s.b (putA s) 0
      · right
        have e2 := e0
        unfold Sto.b at e2
        refine ⟨?_, by omega⟩
        have : setF (setF (setF (setF (putsV (chW s (putA s) i d) V) (s.b (putA s) 0) (1, recL (ofL i t d))) (s.b (putA s) 1) (1, recL (ofL i t d))) (s.b (putA s) 0) (2, Rc.zero)) (s.b (putA s) 1) (2, Rc.zero) (s.b ((j / 2 : Nat) : Int) ((j % 2 : Nat) : Int)) = (2, Rc.zero) := by
          rw [setF_other _ _ _ _ e1, e0, setF_same]
        show ¬ (setF (setF (setF (setF (putsV (chW s (putA s) i d) V) (s.b (putA s) 0) (1, recL (ofL i t d))) (s.b (putA s) 1) (1, recL (ofL i t d))) (s.b (putA s) 0) (2, Rc.zero)) (s.b (putA s) 1) (2, Rc.zero) (s.b ((j / 2 : Nat) : Int) ((j % 2 : Nat) : Int))).1 = 1
        rw [this]
        decide
      · left
        exact h0 _ e0 e1 (fun k hk => by unfold Sto.b; omega)
  · exact h0 _ (by unfold Sto.b; omega) (by unfold Sto.b; omega) (fun m hm => by unfold Sto.b; omega)
end
set_option maxRecDepth 100000 in
set_option maxHeartbeats 25600000 in
theorem areas7_any {w0 : World} (a : Option Addr) (len cap : Nat) (ns : List Int) (hR : Rd w0 1 (.slice a len cap) len (ns.map (Value.int .i64))) (hwf0 : ∀ x ∈ ns, (Lit.int .i64 x).wf = true) :
    Calls Try.prog 6 #[.slice a len cap] w0 fun e w' => e = .returned (.bool true) ∧ Ext [] w0 w' := by
  have hl : ns.length = len := by have := hR.len.2.2.2; simp at this; omega
  have hwf : ∀ x ∈ ns, -9223372036854775808 ≤ x ∧ x ≤ 9223372036854775807 := fun x hx => wf_i64 (hwf0 x hx)
  have hlm : len ≤ 9223372036854775807 := by have := hR.len; unfold maxLen at this; omega
  have HR := Hid.of hR
  have HL := Hid.of hl
  have HW := Hid.of hwf
  clear hR hl hwf hwf0
  go_enter Try.func6, Try.ntmps6
  go_wp2_with fail
  refine (head7_any w0).mono ?_
  rintro e w1 ⟨rfl, hx1⟩
  by_cases h12 : 8 < (len : Int)
  · go_wp2
    go_ret
    exact ⟨rfl, hx1⟩
  · have HX1 := Hid.of hx1
    clear hx1
    go_wp2_with fail
    refine (new_n 140 w0 w1 HX1.out).mono ?_
    rintro e w2 ⟨b, rfl, hd, hx2⟩
    have hf := Fine0.new 140 (by omega) (by omega)
    have HF := Hid.of hf
    have HD := Hid.of hd.o
    clear hd hf hx2 HX1
    go_wp2_with fail
    refine (open7_o HD.out HF.out.fine 0 (by omega) (by omega)).mono ?_
    rintro e w3 ⟨q, sv, rfl, hs, hx3, hq⟩
    have hg := Good.new 0
    rw [hg.open] at hs
    have HS3 := Hid.of hs
    have HG3 := Hid.of hg
    clear hs hg hx3 hq HD
    go_upto_region 11 with fail
    go_loopw [6, 32] (fun u6 u32 wr => ∃ (k : Nat) (sv : Value) (D : Dv) (V : Int → Sl) (s : Sto) (x : Shot), u6 = str x.d ∧ u32 = .int .i64 (k : Int) ∧ k ≤ len ∧ Hid (StM w0 wr q b sv D s 140 []) ∧ Hid (Fine0 D 140 V) ∧ Hid (Good 0 V s x) ∧ Hid (x.i = k ∧ ((k : Int) = 0 → s.area = -1) ∧ ((k : Int) ≠ 0 → s.area = ((k : Int) - 1) % 2))) (fun _ u32 _ => len - (intOf u32).toNat)
    case atStart => exact ⟨0, sv, _, _, _, _, rfl, rfl, by omega, HS3, HF, HG3, rfl, fun _ => rfl, fun h => absurd rfl h⟩
    case round =>
      clear HS3 HF HG3
      obtain ⟨k, sv, D, V, s, x, rfl, rfl, hk, hS, hF, hG, hA⟩ := hrel
      by_cases hkl : k < len
      · have hRr := HR.out.keep hS.out.dev.ext (by simp)
        obtain ⟨g, off, rfl, hgw, hc⟩ := hRr.view (by omega)
        have hje : k < ns.length := by have := HL.out; omega
        have c0 : wr.cell? ⟨g, off + k, none⟩ = some (.int .i64 ns[k]) := hc k _ (by rw [List.getElem?_map, List.getElem?_eq_getElem hje]; rfl)
        have hnw := HW.out ns[k] (List.getElem_mem _)
        generalize ns[k] = nn at c0 hnw
        clear hRr hgw hc hje
        have hk8 : k ≤ 8 := by omega
        go_upto_region 13 with fail
        clear c0
        go_wp2_with fail
        refine (text7_any (nn % 2048) (k : Int) wr (by omega)).mono ?_
        rintro e w4 ⟨tx, rfl, htl, hx4⟩
        have htl2 : tx.length ≤ 2047 := by omega
        have hri := text_right (i := (k : Int) + 1) (t := 1) (d := tx) (by omega) (by omega) (by omega)
        have hxi : x.i < (k : Int) + 1 := by have := hA.out.1; omega
        obtain ⟨D', hX, hf'⟩ := hG.out.putG hF.out (by omega) (by omega) hxi hri
        have hg' := hG.out.put hxi hri
        have hbk := hG.out.back hxi hri
        have HS4 := Hid.of (hS.out.keep hx4)
        have cpt := HS4.out.put7 ((k : Int) + 1) 1 tx (by omega) (by rw [hF.out.calm0.calm.since]; simp)
        rw [hX] at cpt
        unfold PutTo at cpt
        simp only at cpt
        have hpa : putA s = (k : Int) % 2 := by
          have h1 := hA.out.2.1
          have h2 := hA.out.2.2
          unfold putA
          by_cases hk0 : (k : Int) = 0
          · rw [h1 hk0, if_neg (by omega)]; omega
          · rw [h2 hk0]
            split <;> omega
        have hbs : s.base = 0 := hG.out.bas
        have hb0 : s.b (putA s) 0 = (k : Int) % 2 * 66 := by unfold Sto.b; rw [hpa, hbs]; omega
        have hb1 : s.b (putA s) 1 = (k : Int) % 2 * 66 + 1 := by unfold Sto.b; rw [hpa, hbs]; omega
        have har' : (putS s (ofL ((k : Int) + 1) 1 tx)).area = (k : Int) % 2 := hpa
        rw [hb0, hb1] at hbk
        generalize putS s (ofL ((k : Int) + 1) 1 tx) = s' at cpt hg' har'
        generalize putsV [chW s (putA s) ((k : Int) + 1) tx, [copR s (putA s) (ofL ((k : Int) + 1) 1 tx) 0], [copR s (putA s) (ofL ((k : Int) + 1) 1 tx) 1]].flatten V = V' at hf' hg' hbk
        have HF' := Hid.of hf'
        have HG' := Hid.of hg'
        have HBk := Hid.of hbk
        have HAr := Hid.of har'
        have HXi := Hid.of hA.out.1
        have HHas : Hid ((k : Int) ≠ 0 → Has (setF (setF V' ((k : Int) % 2 * 66) (2, Rc.zero)) ((k : Int) % 2 * 66 + 1) (2, Rc.zero)) s x.i x.t x.d) := Hid.of (fun h => (hbk.som (by have := hA.out.1; omega)).1)
        clear hX hf' hg' hbk hpa hbs hb0 hb1 har' hri hxi htl hx4 hS hF hG
        go_wp2_with fail
        refine cpt.mono ?_
        rintro e w5 ⟨sv', rfl, hs5, hk5⟩
        have HS5 := Hid.of hs5
        clear cpt hs5 hk5 HS4
        by_cases hk0 : k = 0
        · have hkp : decide (0 < (k : Int)) = false := decide_eq_false (by omega)
          go_wp2
          go_roundw
          case rel =>
            refine ⟨k + 1, sv', D', V', s', ⟨(k : Int) + 1, 1, tx⟩, rfl, by go_num, by omega, HS5.out, HF'.out, HG'.out, by push_cast; rfl, fun h => ?_, fun h => ?_⟩
            · omega
            · have := HAr.out
              push_cast
              omega
          case measure => simp [intOf]; omega
        · have hkp : decide (0 < (k : Int)) = true := decide_eq_true (by omega)
          obtain ⟨⟨Fd, hFd, -, -⟩, -, hok5⟩ := HS5.out.dev
          have cln := clone_any b Fd D' w5 hFd hok5 (by have := HF'.out.fine.since; omega)
          clear hFd
          go_wp2_with fail
          refine cln.mono ?_
          rintro e w6 ⟨b', F', rfl, hF', hl', hx6⟩
          have HD6 : Hid (DevO w5 w6 b' D' []) := Hid.of ⟨⟨F', hF', hl', by simp⟩, hx6, hok5⟩
          clear cln hF' hl' hx6 hok5
          have c1 := lose_o b' D' ((k : Int) % 2 * 66) w5 w6 [] HD6.out
          go_wp2_with fail
          refine c1.mono ?_
          rintro e w7 ⟨rfl, hd7, -⟩
          have c2 := lose_o b' _ ((k : Int) % 2 * 66 + 1) w5 w7 [] hd7
          clear c1 hd7
          go_wp2_with fail
          refine c2.mono ?_
          rintro e w8 ⟨rfl, hd8, -⟩
          have HF8 : Hid (Fine (loseD ((k : Int) % 2 * 66 + 1) (loseD ((k : Int) % 2 * 66) D')) 140 (setF (setF V' ((k : Int) % 2 * 66) (2, Rc.zero)) ((k : Int) % 2 * 66 + 1) (2, Rc.zero)) 0) := Hid.of ((HF'.out.fine.lose (by omega) (by omega)).lose (by omega) (by omega))
          have co := open7_o hd8 HF8.out 0 (by omega) (by omega)
          rw [HBk.out.open] at co
          clear c2 hd8
          go_wp2_with fail
          refine co.mono ?_
          rintro e w9 ⟨q9, sv9, rfl, hs9, -, -⟩
          have HS9 := Hid.of hs9
          have hhas := HHas.out (by omega)
          have har : ¬ s.area < 0 := by have := hhas.area; omega
          have hli : s.list.idx = (k : Int) := by rw [hhas.list]; exact HXi.out
          have cd := hs9.data7 HF8.out
          rw [hhas.data] at cd
          have cl := fun w' (hx : Ext [] w9 w') => (hs9.keep hx).list7
          unfold ListTo at cl
          simp only [if_neg har] at cl
          have hbb : decide (¬ s.area < 0) = true := by simp [har]
          rw [hbb] at cl
          generalize s.list = l9 at cl hli
          clear co hs9 hhas har hbb
          go_wp2_with fail
          refine cd.mono ?_
          rintro e w10 ⟨rfl, hx10⟩
          have cl10 := cl w10 hx10
          have HX10 := Hid.of hx10
          clear cd cl hx10
          go_wp2_with fail
          refine cl10.mono ?_
          rintro e w11 ⟨sl, rfl, ho11, hx11, hv11⟩
          obtain ⟨sa, sc, rfl⟩ := Rd.isSlice ho11.rd
          have HXF : Hid (Ext [] w5 (w11.alloc (.cells #[.int .i64 (k : Int), .int .i64 l9.term, .int .i64 l9.bytes, .slice sa l9.sums.length sc] 42))) := Hid.of ((HS9.out.dev.ext.then0 (HX10.out.then0 hx11)).alloc _)
          clear cl10 ho11 hx11 hv11 HX10 HS9
          unfold lsv
          rw [hli]
          go_wp2
          go_roundw
          case rel =>
            refine ⟨k + 1, sv', D', V', s', ⟨(k : Int) + 1, 1, tx⟩, rfl, by go_num, by omega, HS5.out.keep HXF.out, HF'.out, HG'.out, by push_cast; rfl, fun h => ?_, fun h => ?_⟩
            · omega
            · have := HAr.out
              push_cast
              omega
          case measure => simp [intOf]; omega
      · obtain rfl : k = len := by omega
        have HXe := Hid.of hS.out.dev.ext
        clear hS hF hG hA
        go_wp2
        go_ret
        exact ⟨rfl, HXe.out⟩
end Go.Proofs.Ytlnfigbcdmfmdaa
