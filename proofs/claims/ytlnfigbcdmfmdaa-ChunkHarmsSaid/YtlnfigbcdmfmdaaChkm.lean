/- Package chunk: Put. (Printed by wip/gen_put7.py.) -/
import Derived.Test.YtlnfigbcdmfmdaaChkl
namespace Go.Proofs.Ytlnfigbcdmfmdaa
open Go.RowKit
set_option linter.unusedVariables false
set_option linter.unusedSimpArgs false

theorem PutTo.mk {w0 w : World} {q b : Nat} {X : Int × Dv × Sto} {n : Int} {O : List Nat} {sv' : Value} {w' : World} {E : Int} {D' : Dv} {s' : Sto} (hX : X = (E, D', s')) (h : StM w0 w' q b sv' D' s' n O) (hk : Kept O w w') : PutTo w0 w q b X n O (.returned (.int .i64 E)) w' := by
  subst hX
  exact ⟨sv', rfl, h, hk⟩
section
variable {w0 w : World} {q b : Nat} {sv : Value} {D : Dv} {s : Sto} {n : Int} {O : List Nat}
set_option maxRecDepth 100000 in
set_option maxHeartbeats 25600000 in
theorem put_goA (h : StM w0 w q b sv D s n O) (hcase : s.area < 0) (i t : Int) (d : List UInt8) (hd : d.length ≤ 1000000) (hk : putOk s (ofL i t d)) (hlen : D.since.length ≤ 900000) :
    Calls Try.prog 14 #[.pointer (some ⟨q, 0, none⟩), .int .i64 i, .int .i64 t, str d] w (PutTo w0 w q b (putX s i t d D) n O) := by
  have co := ofl_any i t d w (by omega)
  have cc := fun w' => cut_any d w' (by omega : d.length ≤ 1000000000)
  have hRt := (ofL_right i t d).1 hk.1
  obtain ⟨hi1, hi2, ht1, ht2, hdl⟩ := hRt
  have hX : putX s i t d D = ((putR s i t d D).1, (putR s i t d D).2, if (putR s i t d D).1 = 0 then putS s (ofL i t d) else s) := by unfold putX; rw [if_pos hk]
  have hpe := putR_eq s i t d D
  have hK64 : (cutL d).length ≤ 64 := by rw [cutL_length]; omega
  have hcg : ∀ (k : Nat) (x : List UInt8), (cutL d)[k]? = some x → putE (chunkRec i k x) = 0 ∧ x.length ≤ 400 ∧ (chW s (putA s) i d)[k]? = some (s.b (putA s) (2 + (k : Int)), chunkRec i k x) := by
    intro k x hx
    obtain ⟨hk, rfl⟩ := List.getElem?_eq_some_iff.1 hx
    have h4 := (cutL_piece d k hk).2.2.1
    exact ⟨chunk_put ⟨hi1, hi2⟩ (by omega) h4, h4, by rw [List.getElem?_eq_getElem (by rw [chW_length]; exact hk), chW_get s (putA s) i d k hk]⟩
  have hcl := chW_length s (putA s) i d
  have hA01 : putA s = 0 ∨ putA s = 1 := by unfold putA; split; exact .inr rfl; exact .inl rfl
  have HAdef : Hid (putA s = if s.area = 0 then 1 else 0) := Hid.of rfl
  have hidx : (ofL i t d).idx = i := rfl
  have hbt : (ofL i t d).bytes = d.length := rfl
  have cr := fun sl w' (hs : Sums w' sl (ofL i t d).sums) => right_any (ofL i t d) sl w' hs (by rw [hbt]; omega)
  rw [decide_eq_true hk.1] at cr
  have hr1 := hk.1
  have hst : ¬ (0 ≤ s.area ∧ i ≤ s.list.idx) := hk.2
  have hok := h.ok
  have hSok : ∀ l : Ls, l.right → StOk (putS s l) n := fun l hl => ⟨hok.base, hok.fit, hok.big, by unfold putS; simp only; omega, .inr hl, fun _ => hl⟩
  have hb0 : 0 ≤ s.base ∧ s.base ≤ 4096 := ⟨hok.base, by have := hok.fit; have := hok.big; omega⟩
  obtain ⟨l, hl⟩ : ∃ l, l = ofL i t d := ⟨_, rfl⟩
  rw [← hl] at co hX cr hidx hr1
  obtain ⟨ps, hps⟩ : ∃ ps, ps = cutL d := ⟨_, rfl⟩
  simp only [← hps] at cc hcg hcl hK64
  obtain ⟨PR, hPR⟩ : ∃ x, x = putR s i t d D := ⟨_, rfl⟩
  rw [← hPR] at hX hpe
  rw [← hl] at hpe
  obtain ⟨CW, hCW⟩ : ∃ x, x = chW s (putA s) i d := ⟨_, rfl⟩
  rw [← hCW] at hpe hcl
  simp only [← hCW] at hcg
  obtain ⟨PX, hPX⟩ : ∃ x, x = putX s i t d D := ⟨_, rfl⟩
  rw [← hPX] at hX ⊢
  obtain ⟨aa, hA⟩ : ∃ x, x = putA s := ⟨_, rfl⟩
  simp only [← hA] at hcg HAdef hA01
  rw [← hA] at hpe
  clear hl hps hPR hCW hPX hbt hk
  have H := Hid.of h
  have HX := Hid.of hX
  have HPE := Hid.of hpe
  have HCG := Hid.of hcg
  have HCL := Hid.of hcl
  have HSok := Hid.of hSok
  have HAp := Hid.of hA
  have HLen := Hid.of hlen
  have HR1 := Hid.of hr1
  have HB0 := Hid.of hb0
  have cq := fun w' (hx : Ext [] w w') => StB.cells (Blk.keep h.blk hx (by simp) : StB w' q b sv s)
  have hdl2 : (d.length : Int) ≤ 25600 := by omega
  have hst2 := hst
  clear h hX hpe hcg hcl hSok hA hlen hr1 hb0 hok hidx hdl
  generalize hai : s.area = ar at cq hst HAdef hcase
  generalize hli : s.list.idx = li at cq hst
  generalize s.list.term = lt at cq
  generalize s.list.bytes = lb at cq
  generalize s.base = sbase at cq
  clear hai hli
  go_enter Try.func14, Try.ntmps14
  go_wp2_with fail
  refine co.mono ?_
  rintro e w1 ⟨sl, rfl, ho1, hx1, hv1⟩
  obtain ⟨sa, sc, rfl⟩ := Rd.isSlice ho1.rd
  obtain ⟨R, hR⟩ : ∃ R, R = w1.heap.size := ⟨_, rfl⟩
  obtain ⟨w2, hw2⟩ : ∃ w2, w2 = w1.alloc (.cells #[.int .i64 l.idx, .int .i64 l.term, .int .i64 l.bytes, .slice sa l.sums.length sc] 42) := ⟨_, rfl⟩
  have hx12 : Ext [] w1 w2 := by rw [hw2]; exact (Ext.refl _ _).alloc _
  have hx2 : Ext [] w w2 := hx1.then0 hx12
  have hs2 : Sums w2 (.slice sa l.sums.length sc) l.sums := by rw [hw2]; exact ho1.rd.alloc _
  have HBR2 : Hid (Blk w2 R 42 [.int .i64 l.idx, .int .i64 l.term, .int .i64 l.bytes, .slice sa l.sums.length sc]) := Hid.of (by rw [hw2]; exact Blk.newg hR.symm)
  have HVS : Hid (∀ z ∈ vblocks (.slice sa l.sums.length sc), w.heap.size ≤ z ∧ z < R) := Hid.of (fun z hz => ⟨hv1 z hz, by rw [hR]; exact ho1.lt z hz⟩)
  have HRw : Hid (w.heap.size ≤ R ∧ R < w2.heap.size) := Hid.of ⟨by rw [hR]; exact hx1.size, Blk.lt HBR2.out⟩
  have c2 := cr _ w2 hs2
  clear co cr ho1 hv1 hx1 hx12
  unfold lsv at c2 ⊢
  go_wp2_with fail
  rw [← hw2, ← hR]
  clear hw2 hR
  refine c2.mono ?_
  rintro e w3 ⟨rfl, hx3⟩
  have HX3 := Hid.of (hx2.then0 hx3)
  have HBR3 := Hid.of (Blk.keep HBR2.out hx3 (by simp))
  have HS3 := Hid.of (hs2.keep0 hx3)
  have HR3 : Hid (w.heap.size ≤ R ∧ R < w3.heap.size) := Hid.of ⟨HRw.out.1, Nat.lt_of_lt_of_le HRw.out.2 hx3.size⟩
  have cq3 := fun w' (hx : Ext [] w3 w') => cq w' (HX3.out.then0 hx)
  clear c2 hx2 hx3 hs2 HBR2 HRw
  obtain ⟨c0, -, c2, c3, -, -, -⟩ := cq3 w3 (Ext.refl _ _)
  generalize hrow : [Value.int .i64 l.idx, .int .i64 l.term, .int .i64 l.bytes, .slice sa l.sums.length sc] = row at HBR3
  have HROW := Hid.of hrow
  clear hrow
  have e1 : decide (0 ≤ ar) = false := decide_eq_false (by omega)
  go_upto_if 47 with fail
  go_cut [10] (fun v wx => v = .int .i64 aa ∧ Hid (Ext [] w3 wx))
  case first =>
    by_cases ha0 : ar = 0
    · exfalso; omega
    · have HA1 : Hid (aa = 0) := Hid.of (HAdef.out.trans (if_neg ha0))
      have e0 : (ar == 0) = false := by simp [ha0]
      go_wp2
      go_meet
      exact ⟨by rw [HA1.out], Ext.refl _ _⟩
  case rest =>
    obtain ⟨rfl, HXc⟩ := hcut
    clear e1 c0 c2 c3
    go_wp2_with fail
    refine (cc wc).mono ?_
    rintro e w4 ⟨ss, rfl, ho4, hx4, hv4⟩
    obtain ⟨nk, hK⟩ : ∃ nk, nk = ps.length := ⟨_, rfl⟩
    rw [← hK] at ho4
    obtain ⟨za, zc, rfl⟩ := Rd.isSlice ho4.rd
    have HX4 := Hid.of (HXc.out.then0 hx4)
    have HS4 : Hid (Rd w4 1 (.slice za nk zc) nk (ps.map str)) := Hid.of ho4.rd
    have HV4 : Hid (∀ z ∈ vblocks (.slice za nk zc), w3.heap.size ≤ z ∧ z < w4.heap.size) := Hid.of (fun z hz => ⟨Nat.le_trans HXc.out.size (hv4 z hz), ho4.lt z hz⟩)
    have HK := Hid.of hK
    have hK2 : (nk : Int) ≤ 64 := by omega
    have HM4 : Hid (DevO w0 w4 b D (R :: (vblocks (.slice za nk zc) ++ (vblocks (.slice sa l.sums.length sc) ++ (q :: (vblocks sv ++ O)))))) := Hid.of (by
      have h1 := H.out.dev.addL HX3.out (R :: vblocks (.slice sa l.sums.length sc)) (fun z hz => by
        rcases List.mem_cons.1 hz with rfl | hz
        · exact HR3.out
        · have := HVS.out z hz; have := HR3.out; omega)
      have h2 := h1.addL HX4.out (vblocks (.slice za nk zc)) (fun z hz => HV4.out z hz)
      refine h2.sub (fun z hz => ?_)
      simp only [List.mem_cons, List.mem_append] at hz ⊢
      rcases hz with h | h | h | h
      · exact .inr (.inl (.inl h))
      · exact .inl h
      · exact .inr (.inl (.inr h))
      · exact .inr (.inr h))
    clear ho4 hv4 hx4 cc hK HXc
    obtain ⟨P, hP⟩ : ∃ P, P = R :: (vblocks (.slice za nk zc) ++ (vblocks (.slice sa l.sums.length sc) ++ (q :: (vblocks sv ++ O)))) := ⟨_, rfl⟩
    rw [← hP] at HM4
    have HPz : Hid (∀ z ∈ vblocks (.slice za nk zc), z ∈ P) := Hid.of (fun z hz => by rw [hP]; simp only [List.mem_cons, List.mem_append]; exact .inr (.inl hz))
    have HPs : Hid (∀ z ∈ vblocks (.slice sa l.sums.length sc), z ∈ P) := Hid.of (fun z hz => by rw [hP]; simp only [List.mem_cons, List.mem_append]; exact .inr (.inr (.inl hz)))
    have HPq : Hid (q ∈ P ∧ R ∈ P) := Hid.of (by rw [hP]; simp)
    have HPO : Hid (∀ z ∈ O, z ∈ P) := Hid.of (fun z hz => by rw [hP]; simp only [List.mem_cons, List.mem_append]; exact .inr (.inr (.inr (.inr (.inr hz)))))
    have HPv : Hid (∀ z ∈ vblocks sv, z ∈ P) := Hid.of (fun z hz => by rw [hP]; simp only [List.mem_cons, List.mem_append]; exact .inr (.inr (.inr (.inr (.inl hz)))))
    have HPall : Hid (∀ z ∈ q :: (vblocks sv ++ O), z ∈ P) := Hid.of (fun z hz => by rw [hP]; simp only [List.mem_cons, List.mem_append] at hz ⊢; exact .inr (.inr (.inr hz)))
    have HB4 : Hid (StB w4 q b sv s) := Hid.of (Blk.keep H.out.blk (HX3.out.then0 HX4.out) (by simp))
    have HBR4 := Hid.of (Blk.keep HBR3.out HX4.out (by simp))
    have HSl4 : Hid (Sums w4 (.slice sa l.sums.length sc) l.sums) := Hid.of (HS3.out.keep0 HX4.out)
    have HXw4 := Hid.of (HX3.out.then0 HX4.out)
    have HR4 : Hid (w.heap.size ≤ R ∧ R < w4.heap.size) := Hid.of ⟨HR3.out.1, Nat.lt_of_lt_of_le HR3.out.2 HX4.out.size⟩
    have HWF := Hid.of (fun m => wrs_since (CW.take m) D)
    have HPE2 : Hid (PR = if (wrf CW D).1 = 0 then copsD s aa l (wrf CW D).2 else wrf CW D) := HPE
    clear hP HX3 HX4 HBR3 HS3 HR3 cq3 cq HPE
    go_upto_region 8 with fail
    go_loopw [51] (fun u51 wr => ∃ (k : Nat), u51 = .int .i64 (k : Int) ∧ k ≤ nk ∧ Hid ((wrs (CW.take k) D).1 = 0) ∧ Hid (DevO w0 wr b (wrs (CW.take k) D).2 P) ∧ Hid (Kept P w4 wr)) (fun u51 _ => nk - (intOf u51).toNat)
    case atStart => exact ⟨0, rfl, by omega, rfl, HM4, Kept.refl _ _⟩
    case round =>
      obtain ⟨k, rfl, hkK, hE0, hM1, hK1⟩ := hrel
      by_cases hlt : k < nk
      · have hlt2 : (k : Int) < (nk : Int) := by omega
        have hkp : k < ps.length := by have := HK.out; omega
        obtain ⟨x, hx⟩ : ∃ x, ps[k]? = some x := ⟨_, List.getElem?_eq_getElem hkp⟩
        obtain ⟨hpx, hxl, hcx⟩ := HCG.out k x hx
        obtain ⟨hkc, hcx2⟩ := List.getElem?_eq_some_iff.1 hcx
        have HT : Hid (wrs (CW.take (k + 1)) D = (swE (s.b aa (2 + (k : Int))) (chunkRec i k x) (wrs (CW.take k) D).2, swD (s.b aa (2 + (k : Int))) (chunkRec i k x) (wrs (CW.take k) D).2)) := Hid.of (by rw [wrs_next hkc hE0.out, hcx2])
        have HF : Hid ((wrs (CW.take (k + 1)) D).1 ≠ 0 → wrf CW D = wrs (CW.take (k + 1)) D) := Hid.of (fun h => wrf_fail h)
        have hRr : Rd wr 1 (.slice za nk zc) nk (ps.map str) := hK1.out.rd HS4.out HPz.out
        obtain ⟨zg, off, rfl, hgw, hc⟩ := hRr.view (by omega)
        have c0 : wr.cell? ⟨zg, off + k, none⟩ = some (str x) := hc k _ (by rw [List.getElem?_map, hx]; rfl)
        have hsin : (wrs (CW.take k) D).2.since.length ≤ 1000000 := by
          have h1 := HWF.out k
          have h2 : (CW.take k).length ≤ nk := by rw [List.length_take]; omega
          have h3 := HLen.out
          omega
        have HWf := wf_of_put hpx
        have hBr := fun w' (hx : Ext [] wr w') => (Blk.keep (hK1.out.blk HB4.out HPq.out.1) hx (by simp) : StB w' q b sv s)
        have cb := fun w' (hx : Ext [] wr w') => block_o (hBr w' hx) HB0.out aa (2 + (k : Int)) (by omega) (by omega)
        have cq := fun w' (hx : Ext [] wr w') => (StB.cells (hBr w' hx)).1
        have cw := fun w' (hx : Ext [] wr w') => swrite_o b (wrs (CW.take k) D).2 (s.b aa (2 + (k : Int))) (chunkRec i k x) w0 w' P (hM1.out.keep hx) hsin HWf
        generalize hE1 : swE (s.b aa (2 + (k : Int))) (chunkRec i k x) (wrs (CW.take k) D).2 = E1 at cw HT
        generalize hD2 : swD (s.b aa (2 + (k : Int))) (chunkRec i k x) (wrs (CW.take k) D).2 = D2 at cw HT
        generalize s.b aa (2 + (k : Int)) = B at cb cw
        simp only [Rc.val, chunkRec] at cw
        clear hE1 hD2 hx hpx hcx hkc hcx2 hRr hgw hc HWf hsin hBr hkp
        go_upto_region 10 with fail
        clear c0
        refine wp_region_u [56, 57, 58, 59, 60, 61, 62, 63, 64, 65, 66, 67, 68, 69, 13] [13] (fun n => match n with | 0 => .pointer (some ⟨q, 0, none⟩) | 1 => .pointer (some ⟨q, 0, none⟩) | 2 => .pointer (some ⟨q, 0, none⟩) | 3 => .pointer (some ⟨b, 0, none⟩) | 4 => .pointer (some ⟨q, 0, none⟩) | 5 => .int .i64 aa | 6 => .int .i64 (k : Int) | 7 => .int .i64 (2 + (k : Int)) | 8 => .int .i64 B | 9 => .int .i64 i | 10 => .int .i64 (k : Int) | 11 => .string ⟨x.toArray⟩ | 12 => .agg #[.int .i64 5, .int .i64 i, .int .i64 (k : Int), .string ⟨x.toArray⟩] | 14 => .int .i64 E1 | _ => undef) (fun f v wx => (f 13 = false → Ext [] wr wx) ∧ (f 13 = true → v 13 = .int .i64 E1 ∧ DevO w0 wx b D2 P ∧ Kept P wr wx)) (by kernel_rfl) (by kernel_rfl) ?hst0_10 ?h00_10 ?hst_10 ?hend_10
        case hst0_10 =>
          rintro f v w w' ⟨j1, j2⟩ hx2
          exact ⟨fun h => (j1 h).then0 hx2, fun h => ⟨(j2 h).1, (j2 h).2.1.keep hx2, (j2 h).2.2.trans (Kept.of hx2)⟩⟩
        case h00_10 =>
          exact ⟨fun _ => Ext.refl _ _, fun h => (by cases h)⟩
        case hst_10 =>
          refine ⟨?f0_10, ?f1_10, ?f2_10, ?f3_10, ?f4_10, ?f5_10, ?f6_10, ?f7_10, ?f8_10, ?f9_10, ?f10_10, ?f11_10, ?f12_10, ?f13_10, ?f14_10, trivial⟩
          case f0_10 =>
            intro f v g w' hJ hfi hb hd
            refine arm_u rfl ?_
            refine op_run rfl ?_
            generalize hA : mkAct _ _ g = A
            have h0 : A.tmps[0]?.getD undef = .pointer (some ⟨q, 0, none⟩) := by rw [← hA]; exact mkAct_out2 _ _ _ _ _ rfl rfl
            refine step_val (v := .pointer (some ⟨q, 0, none⟩)) (w' := w') ?_ ⟨rfl, Ext.refl _ _⟩
            simp [execOp, h0, Result.andThen, go_sem]
          case f1_10 =>
            intro f v g w' hJ hfi hb hd
            refine arm_u rfl ?_
            refine op_run rfl ?_
            have e56 : g 56 = .pointer (some ⟨q, 0, none⟩) := value_u (hd ⟨0, .data⟩ (by simp) rfl) rfl rfl
            generalize hA : mkAct _ _ g = A
            have h56 : A.tmps[56]?.getD undef = .pointer (some ⟨q, 0, none⟩) := by rw [← hA, mkAct_in2 _ _ _ _ rfl rfl]; exact e56
            refine step_val (v := .pointer (some ⟨q, 0, none⟩)) (w' := w') ?_ ⟨rfl, Ext.refl _ _⟩
            simp [execOp, h56, Result.andThen, go_sem]
          case f2_10 =>
            intro f v g w' hJ hfi hb hd
            refine arm_u rfl ?_
            refine op_run rfl ?_
            have e57 : g 57 = .pointer (some ⟨q, 0, none⟩) := value_u (hd ⟨1, .data⟩ (by simp) rfl) rfl rfl
            generalize hA : mkAct _ _ g = A
            have h57 : A.tmps[57]?.getD undef = .pointer (some ⟨q, 0, none⟩) := by rw [← hA, mkAct_in2 _ _ _ _ rfl rfl]; exact e57
            refine step_val (v := .pointer (some ⟨q, 0, none⟩)) (w' := w') ?_ ⟨rfl, Ext.refl _ _⟩
            simp [execOp, h57, Result.andThen, go_sem]
          case f3_10 =>
            intro f v g w' hJ hfi hb hd
            refine arm_u rfl ?_
            refine op_run rfl ?_
            have e58 : g 58 = .pointer (some ⟨q, 0, none⟩) := value_u (hd ⟨2, .data⟩ (by simp) rfl) rfl rfl
            generalize hA : mkAct _ _ g = A
            have h58 : A.tmps[58]?.getD undef = .pointer (some ⟨q, 0, none⟩) := by rw [← hA, mkAct_in2 _ _ _ _ rfl rfl]; exact e58
            have c := cq w' (hJ.1 (not_yet hb (by kernel_rfl)))
            refine step_val (v := .pointer (some ⟨b, 0, none⟩)) (w' := w') ?_ ⟨rfl, Ext.refl _ _⟩
            simp [execOp, h58, c, Result.andThen, go_sem]
          case f4_10 =>
            intro f v g w' hJ hfi hb hd
            refine arm_u rfl ?_
            refine op_run rfl ?_
            generalize hA : mkAct _ _ g = A
            have h0 : A.tmps[0]?.getD undef = .pointer (some ⟨q, 0, none⟩) := by rw [← hA]; exact mkAct_out2 _ _ _ _ _ rfl rfl
            refine step_val (v := .pointer (some ⟨q, 0, none⟩)) (w' := w') ?_ ⟨rfl, Ext.refl _ _⟩
            simp [execOp, h0, Result.andThen, go_sem]
          case f5_10 =>
            intro f v g w' hJ hfi hb hd
            refine arm_u rfl ?_
            refine op_run rfl ?_
            generalize hA : mkAct _ _ g = A
            have h10 : A.tmps[10]?.getD undef = .int .i64 aa := by rw [← hA]; exact mkAct_out2 _ _ _ _ _ rfl rfl
            refine step_val (v := .int .i64 aa) (w' := w') ?_ ⟨rfl, Ext.refl _ _⟩
            simp [execOp, h10, Result.andThen, go_sem]
          case f6_10 =>
            intro f v g w' hJ hfi hb hd
            refine arm_u rfl ?_
            refine op_run rfl ?_
            generalize hA : mkAct _ _ g = A
            have h11 : A.tmps[11]?.getD undef = .int .i64 (k : Int) := by rw [← hA]; exact mkAct_out2 _ _ _ _ _ rfl rfl
            refine step_val (v := .int .i64 (k : Int)) (w' := w') ?_ ⟨rfl, Ext.refl _ _⟩
            simp [execOp, h11, Result.andThen, go_sem]
          case f7_10 =>
            intro f v g w' hJ hfi hb hd
            refine arm_u rfl ?_
            refine op_run rfl ?_
            have e62 : g 62 = .int .i64 (k : Int) := value_u (hd ⟨6, .data⟩ (by simp) rfl) rfl rfl
            generalize hA : mkAct _ _ g = A
            have h62 : A.tmps[62]?.getD undef = .int .i64 (k : Int) := by rw [← hA, mkAct_in2 _ _ _ _ rfl rfl]; exact e62
            refine step_val (v := .int .i64 (2 + (k : Int))) (w' := w') ?_ ⟨rfl, Ext.refl _ _⟩
            simp [execOp, h62, Result.andThen, go_sem]
            exact IntWalk.i64_in _ ⟨by omega, by omega⟩
          case f8_10 =>
            intro f v g w' hJ hfi hb hd
            refine arm_u rfl ?_
            refine op_run rfl ?_
            have e60 : g 60 = .pointer (some ⟨q, 0, none⟩) := value_u (hd ⟨4, .data⟩ (by simp) rfl) rfl rfl
            have e61 : g 61 = .int .i64 aa := value_u (hd ⟨5, .data⟩ (by simp) rfl) rfl rfl
            have e63 : g 63 = .int .i64 (2 + (k : Int)) := value_u (hd ⟨7, .data⟩ (by simp) rfl) rfl rfl
            generalize hA : mkAct _ _ g = A
            have h60 : A.tmps[60]?.getD undef = .pointer (some ⟨q, 0, none⟩) := by rw [← hA, mkAct_in2 _ _ _ _ rfl rfl]; exact e60
            have h61 : A.tmps[61]?.getD undef = .int .i64 aa := by rw [← hA, mkAct_in2 _ _ _ _ rfl rfl]; exact e61
            have h63 : A.tmps[63]?.getD undef = .int .i64 (2 + (k : Int)) := by rw [← hA, mkAct_in2 _ _ _ _ rfl rfl]; exact e63
            refine float_u (fun K hK => ?_)
            go_simp
            refine (cb w' (hJ.1 (not_yet hb (by kernel_rfl)))).mono ?_
            rintro e w2 ⟨rfl, hx2⟩
            exact hK w2 hx2
          case f9_10 =>
            intro f v g w' hJ hfi hb hd
            refine arm_u rfl ?_
            refine op_run rfl ?_
            generalize hA : mkAct _ _ g = A
            have h1 : A.tmps[1]?.getD undef = .int .i64 i := by rw [← hA]; exact mkAct_out2 _ _ _ _ _ rfl rfl
            refine step_val (v := .int .i64 i) (w' := w') ?_ ⟨rfl, Ext.refl _ _⟩
            simp [execOp, h1, Result.andThen, go_sem]
          case f10_10 =>
            intro f v g w' hJ hfi hb hd
            refine arm_u rfl ?_
            refine op_run rfl ?_
            generalize hA : mkAct _ _ g = A
            have h11 : A.tmps[11]?.getD undef = .int .i64 (k : Int) := by rw [← hA]; exact mkAct_out2 _ _ _ _ _ rfl rfl
            refine step_val (v := .int .i64 (k : Int)) (w' := w') ?_ ⟨rfl, Ext.refl _ _⟩
            simp [execOp, h11, Result.andThen, go_sem]
          case f11_10 =>
            intro f v g w' hJ hfi hb hd
            refine arm_u rfl ?_
            refine op_run rfl ?_
            generalize hA : mkAct _ _ g = A
            have h12 : A.tmps[12]?.getD undef = .string ⟨x.toArray⟩ := by rw [← hA]; exact mkAct_out2 _ _ _ _ _ rfl rfl
            refine step_val (v := .string ⟨x.toArray⟩) (w' := w') ?_ ⟨rfl, Ext.refl _ _⟩
            simp [execOp, h12, Result.andThen, go_sem]
          case f12_10 =>
            intro f v g w' hJ hfi hb hd
            refine arm_u rfl ?_
            refine op_run rfl ?_
            have e65 : g 65 = .int .i64 i := value_u (hd ⟨9, .data⟩ (by simp) rfl) rfl rfl
            have e66 : g 66 = .int .i64 (k : Int) := value_u (hd ⟨10, .data⟩ (by simp) rfl) rfl rfl
            have e67 : g 67 = .string ⟨x.toArray⟩ := value_u (hd ⟨11, .data⟩ (by simp) rfl) rfl rfl
            generalize hA : mkAct _ _ g = A
            have h65 : A.tmps[65]?.getD undef = .int .i64 i := by rw [← hA, mkAct_in2 _ _ _ _ rfl rfl]; exact e65
            have h66 : A.tmps[66]?.getD undef = .int .i64 (k : Int) := by rw [← hA, mkAct_in2 _ _ _ _ rfl rfl]; exact e66
            have h67 : A.tmps[67]?.getD undef = .string ⟨x.toArray⟩ := by rw [← hA, mkAct_in2 _ _ _ _ rfl rfl]; exact e67
            refine step_val (v := .agg #[.int .i64 5, .int .i64 i, .int .i64 (k : Int), .string ⟨x.toArray⟩]) (w' := w') ?_ ⟨rfl, Ext.refl _ _⟩
            simp [execOp, h65, h66, h67, Result.andThen, go_sem]
          case f13_10 =>
            intro f v g w' hJ hfi hb hd
            refine arms_u rfl ?_
            refine op_run rfl ?_
            have e59 : g 59 = .pointer (some ⟨b, 0, none⟩) := value_u (hd ⟨3, .data⟩ (by simp) rfl) rfl rfl
            have e64 : g 64 = .int .i64 B := value_u (hd ⟨8, .data⟩ (by simp) rfl) rfl rfl
            have e68 : g 68 = .agg #[.int .i64 5, .int .i64 i, .int .i64 (k : Int), .string ⟨x.toArray⟩] := value_u (hd ⟨12, .data⟩ (by simp) rfl) rfl rfl
            generalize hA : mkAct _ _ g = A
            have h59 : A.tmps[59]?.getD undef = .pointer (some ⟨b, 0, none⟩) := by rw [← hA, mkAct_in2 _ _ _ _ rfl rfl]; exact e59
            have h64 : A.tmps[64]?.getD undef = .int .i64 B := by rw [← hA, mkAct_in2 _ _ _ _ rfl rfl]; exact e64
            have h68 : A.tmps[68]?.getD undef = .agg #[.int .i64 5, .int .i64 i, .int .i64 (k : Int), .string ⟨x.toArray⟩] := by rw [← hA, mkAct_in2 _ _ _ _ rfl rfl]; exact e68
            refine mid_u (fun K hK => ?_)
            go_simp
            refine (cw w' (hJ.1 hfi)).mono ?_
            rintro e w2 ⟨rfl, hd2, hk2⟩
            exact hK (.int .i64 E1) w2 ⟨fun h => (by cases h), fun _ => ⟨setU_same _ _ _, hd2, (Kept.of (hJ.1 hfi)).trans hk2⟩⟩
          case f14_10 =>
            intro f v g w' hJ hfi hb hd
            refine arm_u rfl ?_
            refine op_run rfl ?_
            obtain ⟨hf69, e69⟩ := special_u (hd ⟨13, .data⟩ (by simp) rfl) rfl rfl
            replace e69 : g 69 = v 13 := e69
            have e13x := (hJ.2 hf69).1
            rw [e13x] at e69
            generalize hA : mkAct _ _ g = A
            have h69 : A.tmps[69]?.getD undef = .int .i64 E1 := by rw [← hA, mkAct_in2 _ _ _ _ rfl rfl]; exact e69
            refine step_val (v := .int .i64 E1) (w' := w') ?_ ⟨rfl, Ext.refl _ _⟩
            simp [execOp, h69, Result.andThen, go_sem]
        intro f v g wn hJ hk
        have e13 : g 13 = .int .i64 E1 := value_u (hk 14 (by decide)) rfl rfl
        obtain ⟨-, j2⟩ := hJ
        obtain ⟨-, hd2, hk2⟩ := j2 ((hk 13 (by decide)).2 rfl).1
        have HD2 := Hid.of hd2
        have HK2 := Hid.of (hK1.out.trans hk2)
        clear cb cq cw j2 hk hd2 hk2
        unfold mkAct; simp only [List.zipIdx_cons, List.zipIdx_nil, List.map_cons, List.map_nil, Nat.zero_add, Nat.reduceAdd, List.contains_cons, List.contains_nil, Nat.reduceBEq, Bool.or_false, Bool.or_true, ↓reduceIte, Bool.false_eq_true]
        rw [e13]
        clear e13
        by_cases h0 : E1 = 0
        · subst h0
          go_wp2
          go_roundw
          case rel =>
            refine ⟨k + 1, by congr 1, by omega, show _ = _ by rw [HT.out], ?_, HK2.out⟩
            rw [HT.out]
            exact HD2.out
          case measure => simp [intOf]; omega
        · have HN : Hid (PR = (E1, D2)) := Hid.of (by
            have e1 := HF.out (by rw [HT.out]; exact h0)
            rw [HT.out] at e1
            rw [HPE2.out, e1, if_neg h0])
          go_wp2
          go_ret
          obtain ⟨hs9, hk9⟩ := H.out.devt (HD2.out.sub (HPall.out)) ((Kept.of HXw4.out).trans (HK2.out.sub HPall.out))
          exact PutTo.mk (by rw [HX.out, HN.out]; simp [h0]) hs9 hk9
      · obtain rfl : k = nk := by omega
        have e1 : CW.take k = CW := List.take_of_length_le (by have := HK.out; have := HCL.out; omega)
        rw [e1] at hE0 hM1
        have HW : Hid (wrf CW D = (turnE (wrs CW D).2, flushD (wrs CW D).2)) := Hid.of (wrf_end hE0.out)
        have HS5 : Hid ((wrf CW D).2.since.length + 2 ≤ 1000000) := Hid.of (by have := wrf_since CW D; have := HLen.out; have := HK.out; have := HCL.out; omega)
        have cbx := (StB.cells (hK1.out.blk HB4.out HPq.out.1 : StB wr q b sv s)).1
        have cf := flush_o b (wrs CW D).2 w0 wr _ hM1.out
        obtain ⟨WF, hWF⟩ : ∃ x, x = wrf CW D := ⟨_, rfl⟩
        rw [← hWF] at HPE2 HW HS5
        generalize (wrs CW D).2 = DW at cf HW
        generalize turnE DW = E2 at cf HW
        generalize flushD DW = D5 at cf HW
        clear e1 hE0 hWF hM1 HWF HCG
        by_cases h0 : E2 = 0
        · have HPE5 : Hid (PR = copsD s aa l D5) := Hid.of (by rw [HPE2.out, HW.out]; exact if_pos h0)
          have HS6 : Hid (D5.since.length + 2 ≤ 1000000) := Hid.of (by have := HS5.out; rw [HW.out] at this; exact this)
          subst h0
          clear HPE2 HW HS5
          go_upto_if 80 with ((go_at_call 40; (with_reducible refine cf.mono ?_); rintro e w5 ⟨rfl, hd5, hk5⟩; have HD5 := Hid.of hd5; have HK5 := Hid.of (hK1.out.trans hk5); clear hd5 hk5 cf cbx))
          have HB5 : Hid (StB w5 q b sv s) := Hid.of (HK5.out.blk HB4.out HPq.out.1)
          have HSl5 : Hid (Sums w5 (.slice sa l.sums.length sc) l.sums) := Hid.of (HK5.out.rd HSl4.out HPs.out)
          have cc5 := copies_o l (.slice sa l.sums.length sc) aa HB5.out HD5.out HPq.out.1 HSl5.out HPs.out hA01 HR1.out HB0.out HS6.out
          have cR5 := HK5.out.blk HBR4.out HPq.out.2
          rw [← HROW.out] at cR5
          obtain ⟨r0, r1, r2, r3⟩ := Blk4 cR5
          generalize copsD s aa l D5 = C at cc5 HPE5
          obtain ⟨E3, D6⟩ := C
          unfold lsv at cc5
          simp only at cc5
          clear cR5
          by_cases h3 : E3 = 0
          · subst h3
            go_upto_if 87 with ((go_at_call 41; (with_reducible refine cc5.mono ?_); rintro e w6 ⟨rfl, hd6, hk6⟩; have HD6 := Hid.of hd6; have HK6 := Hid.of (HK5.out.trans hk6); clear hd6 hk6 cc5 r0 r1 r2 r3))
            have HBq : Hid (Blk w6 q 84 [.pointer (some ⟨b, 0, none⟩), .int .i64 s.base, .int .i64 s.area, .int .i64 s.list.idx, .int .i64 s.list.term, .int .i64 s.list.bytes, sv]) := Hid.of (HK6.out.blk HB4.out HPq.out.1)
            have cm : Blk w6 R 42 [.int .i64 l.idx, .int .i64 l.term, .int .i64 l.bytes, .slice sa l.sums.length sc] := by rw [HROW.out]; exact HK6.out.blk HBR4.out HPq.out.2
            have hRq : R ∉ [q] := by have := HR4.out; have := Blk.lt H.out.blk; simp; omega
            go_upto_region 20 with fail
            refine wp_region_u [89, 90, 91, 92, 93, 94, 95, 96] [6, 9] (fun n => match n with | 0 => .pointer (some ⟨q, 0, none⟩) | 1 => .pointer (some ⟨q, 0, none⟩) | 2 => .int .i64 aa | 3 => .agg #[.int .i64 l.idx, .int .i64 l.term, .int .i64 l.bytes, .slice sa l.sums.length sc] | 4 => .pointer (some ⟨q, 0, none⟩) | 5 => .pointer (some ⟨q, 2, none⟩) | 7 => .pointer (some ⟨q, 0, none⟩) | 8 => .pointer (some ⟨q, 3, none⟩) | _ => undef) (fun f v wx => Ext [q] w6 wx ∧ (f 6 = false → Blk wx q 84 [.pointer (some ⟨b, 0, none⟩), .int .i64 s.base, .int .i64 s.area, .int .i64 s.list.idx, .int .i64 s.list.term, .int .i64 s.list.bytes, sv]) ∧ (f 6 = true → f 9 = false → Blk wx q 84 [.pointer (some ⟨b, 0, none⟩), .int .i64 s.base, .int .i64 aa, .int .i64 s.list.idx, .int .i64 s.list.term, .int .i64 s.list.bytes, sv]) ∧ (f 9 = true → Blk wx q 84 [.pointer (some ⟨b, 0, none⟩), .int .i64 s.base, .int .i64 aa, .int .i64 l.idx, .int .i64 l.term, .int .i64 l.bytes, .slice sa l.sums.length sc])) (by kernel_rfl) (by kernel_rfl) ?hst0_20 ?h00_20 ?hst_20 ?hend_20
            case hst0_20 =>
              rintro f v w w' ⟨hx, j1, j2, j3⟩ hx2
              exact ⟨hx.then0 hx2, fun h => Blk.keep (j1 h) hx2 List.not_mem_nil, fun h h' => Blk.keep (j2 h h') hx2 List.not_mem_nil, fun h => Blk.keep (j3 h) hx2 List.not_mem_nil⟩
            case h00_20 =>
              exact ⟨Ext.refl _ _, fun _ => HBq.out, fun h => (by cases h), fun h => (by cases h)⟩
            case hst_20 =>
              refine ⟨?f0_20, ?f1_20, ?f2_20, ?f3_20, ?f4_20, ?f5_20, ?f6_20, ?f7_20, ?f8_20, ?f9_20, trivial⟩
              case f0_20 =>
                intro f v g w' hJ hfi hb hd
                refine arm_u rfl ?_
                refine op_run rfl ?_
                generalize hA : mkAct _ _ g = A
                have h0 : A.tmps[0]?.getD undef = .pointer (some ⟨q, 0, none⟩) := by rw [← hA]; exact mkAct_out2 _ _ _ _ _ rfl rfl
                refine step_val (v := .pointer (some ⟨q, 0, none⟩)) (w' := w') ?_ ⟨rfl, Ext.refl _ _⟩
                simp [execOp, h0, Result.andThen, go_sem]
              case f1_20 =>
                intro f v g w' hJ hfi hb hd
                refine arm_u rfl ?_
                refine op_run rfl ?_
                generalize hA : mkAct _ _ g = A
                have h0 : A.tmps[0]?.getD undef = .pointer (some ⟨q, 0, none⟩) := by rw [← hA]; exact mkAct_out2 _ _ _ _ _ rfl rfl
                refine step_val (v := .pointer (some ⟨q, 0, none⟩)) (w' := w') ?_ ⟨rfl, Ext.refl _ _⟩
                simp [execOp, h0, Result.andThen, go_sem]
              case f2_20 =>
                intro f v g w' hJ hfi hb hd
                refine arm_u rfl ?_
                refine op_run rfl ?_
                generalize hA : mkAct _ _ g = A
                have h10 : A.tmps[10]?.getD undef = .int .i64 aa := by rw [← hA]; exact mkAct_out2 _ _ _ _ _ rfl rfl
                refine step_val (v := .int .i64 aa) (w' := w') ?_ ⟨rfl, Ext.refl _ _⟩
                simp [execOp, h10, Result.andThen, go_sem]
              case f3_20 =>
                intro f v g w' hJ hfi hb hd
                refine arm_u rfl ?_
                refine op_run rfl ?_
                generalize hA : mkAct _ _ g = A
                have h9 : A.tmps[9]?.getD undef = .pointer (some ⟨R, 0, none⟩) := by rw [← hA]; exact mkAct_out2 _ _ _ _ _ rfl rfl
                obtain ⟨d0, d1, d2, d3⟩ := (Blk4 (Blk.keep cm hJ.1 hRq))
                refine step_val (v := .agg #[.int .i64 l.idx, .int .i64 l.term, .int .i64 l.bytes, .slice sa l.sums.length sc]) (w' := w') ?_ ⟨rfl, Ext.refl _ _⟩
                simp [execOp, h9, d0, d1, d2, d3, Result.andThen, go_sem]
              case f4_20 =>
                intro f v g w' hJ hfi hb hd
                refine arm_u rfl ?_
                refine op_run rfl ?_
                have e89 : g 89 = .pointer (some ⟨q, 0, none⟩) := value_u (hd ⟨0, .data⟩ (by simp) rfl) rfl rfl
                generalize hA : mkAct _ _ g = A
                have h89 : A.tmps[89]?.getD undef = .pointer (some ⟨q, 0, none⟩) := by rw [← hA, mkAct_in2 _ _ _ _ rfl rfl]; exact e89
                refine step_val (v := .pointer (some ⟨q, 0, none⟩)) (w' := w') ?_ ⟨rfl, Ext.refl _ _⟩
                simp [execOp, h89, Result.andThen, go_sem]
              case f5_20 =>
                intro f v g w' hJ hfi hb hd
                refine arm_u rfl ?_
                refine op_run rfl ?_
                have e93 : g 93 = .pointer (some ⟨q, 0, none⟩) := value_u (hd ⟨4, .data⟩ (by simp) rfl) rfl rfl
                generalize hA : mkAct _ _ g = A
                have h93 : A.tmps[93]?.getD undef = .pointer (some ⟨q, 0, none⟩) := by rw [← hA, mkAct_in2 _ _ _ _ rfl rfl]; exact e93
                refine step_val (v := .pointer (some ⟨q, 2, none⟩)) (w' := w') ?_ ⟨rfl, Ext.refl _ _⟩
                simp [execOp, h93, Result.andThen, go_sem]
              case f6_20 =>
                intro f v g w' hJ hfi hb hd
                refine arms_u rfl ?_
                refine op_run rfl ?_
                have e94 : g 94 = .pointer (some ⟨q, 2, none⟩) := value_u (hd ⟨5, .data⟩ (by simp) rfl) rfl rfl
                have e91 : g 91 = .int .i64 aa := value_u (hd ⟨2, .data⟩ (by simp) rfl) rfl rfl
                generalize hA : mkAct _ _ g = A
                have h94 : A.tmps[94]?.getD undef = .pointer (some ⟨q, 2, none⟩) := by rw [← hA, mkAct_in2 _ _ _ _ rfl rfl]; exact e94
                have h91 : A.tmps[91]?.getD undef = .int .i64 aa := by rw [← hA, mkAct_in2 _ _ _ _ rfl rfl]; exact e91
                have hB0 := hJ.2.1 hfi
                have c0 : w'.cell? ⟨q, 2, none⟩ = some (.int .i64 s.area) := Blk.c hB0 2
                have cf := fun j => Blk.f hB0 j
                have cl := Blk.lt hB0
                have HX9 : Ext [q] w' (w'.setCell ⟨q, 2, none⟩ (.int .i64 aa)) := ((Ext.refl [q] w').setCell (p := ⟨q, 2, none⟩) (.inl (List.mem_singleton.2 rfl)) (.int .i64 aa))
                have HB9 := (Blk.set hB0 2 (.int .i64 aa))
                refine step_skip (w' := (w'.setCell ⟨q, 2, none⟩ (.int .i64 aa))) ?_ ⟨undef, rfl, hJ.1.trans HX9 (fun z hz => .inl hz), fun h => (by cases h), fun _ _ => HB9, fun h => (by have h' : f 9 = true := h; rw [not_yet hb (by kernel_rfl)] at h'; cases h')⟩
                simp [execOp, h94, h91, c0, cf, cl, Result.andThen, go_sem]
              case f7_20 =>
                intro f v g w' hJ hfi hb hd
                refine arm_u rfl ?_
                refine op_run rfl ?_
                have e90 : g 90 = .pointer (some ⟨q, 0, none⟩) := value_u (hd ⟨1, .data⟩ (by simp) rfl) rfl rfl
                generalize hA : mkAct _ _ g = A
                have h90 : A.tmps[90]?.getD undef = .pointer (some ⟨q, 0, none⟩) := by rw [← hA, mkAct_in2 _ _ _ _ rfl rfl]; exact e90
                refine step_val (v := .pointer (some ⟨q, 0, none⟩)) (w' := w') ?_ ⟨rfl, Ext.refl _ _⟩
                simp [execOp, h90, Result.andThen, go_sem]
              case f8_20 =>
                intro f v g w' hJ hfi hb hd
                refine arm_u rfl ?_
                refine op_run rfl ?_
                have e95 : g 95 = .pointer (some ⟨q, 0, none⟩) := value_u (hd ⟨7, .data⟩ (by simp) rfl) rfl rfl
                generalize hA : mkAct _ _ g = A
                have h95 : A.tmps[95]?.getD undef = .pointer (some ⟨q, 0, none⟩) := by rw [← hA, mkAct_in2 _ _ _ _ rfl rfl]; exact e95
                refine step_val (v := .pointer (some ⟨q, 3, none⟩)) (w' := w') ?_ ⟨rfl, Ext.refl _ _⟩
                simp [execOp, h95, Result.andThen, go_sem]
              case f9_20 =>
                intro f v g w' hJ hfi hb hd
                refine arms_u rfl ?_
                refine op_run rfl ?_
                have e96 : g 96 = .pointer (some ⟨q, 3, none⟩) := value_u (hd ⟨8, .data⟩ (by simp) rfl) rfl rfl
                have e92 : g 92 = .agg #[.int .i64 l.idx, .int .i64 l.term, .int .i64 l.bytes, .slice sa l.sums.length sc] := value_u (hd ⟨3, .data⟩ (by simp) rfl) rfl rfl
                generalize hA : mkAct _ _ g = A
                have h96 : A.tmps[96]?.getD undef = .pointer (some ⟨q, 3, none⟩) := by rw [← hA, mkAct_in2 _ _ _ _ rfl rfl]; exact e96
                have h92 : A.tmps[92]?.getD undef = .agg #[.int .i64 l.idx, .int .i64 l.term, .int .i64 l.bytes, .slice sa l.sums.length sc] := by rw [← hA, mkAct_in2 _ _ _ _ rfl rfl]; exact e92
                have hB0 := hJ.2.2.1 ((hd ⟨6, .chain⟩ (by simp) rfl).2 rfl).1 hfi
                have c0 : w'.cell? ⟨q, 3, none⟩ = some (.int .i64 s.list.idx) := Blk.c hB0 3
                have c1 : w'.cell? ⟨q, 4, none⟩ = some (.int .i64 s.list.term) := Blk.c hB0 4
                have c2 : w'.cell? ⟨q, 5, none⟩ = some (.int .i64 s.list.bytes) := Blk.c hB0 5
                have c3 : w'.cell? ⟨q, 6, none⟩ = some (sv) := Blk.c hB0 6
                have cf := fun j => Blk.f hB0 j
                have cl := Blk.lt hB0
                have HX9 : Ext [q] w' ((((w'.setCell ⟨q, 3, none⟩ (.int .i64 l.idx)).setCell ⟨q, 4, none⟩ (.int .i64 l.term)).setCell ⟨q, 5, none⟩ (.int .i64 l.bytes)).setCell ⟨q, 6, none⟩ (.slice sa l.sums.length sc)) := (((((Ext.refl [q] w').setCell (p := ⟨q, 3, none⟩) (.inl (List.mem_singleton.2 rfl)) (.int .i64 l.idx)).setCell (p := ⟨q, 4, none⟩) (.inl (List.mem_singleton.2 rfl)) (.int .i64 l.term)).setCell (p := ⟨q, 5, none⟩) (.inl (List.mem_singleton.2 rfl)) (.int .i64 l.bytes)).setCell (p := ⟨q, 6, none⟩) (.inl (List.mem_singleton.2 rfl)) (.slice sa l.sums.length sc))
                have HB9 := (Blk.set (Blk.set (Blk.set (Blk.set hB0 3 (.int .i64 l.idx)) 4 (.int .i64 l.term)) 5 (.int .i64 l.bytes)) 6 (.slice sa l.sums.length sc))
                refine step_skip (w' := ((((w'.setCell ⟨q, 3, none⟩ (.int .i64 l.idx)).setCell ⟨q, 4, none⟩ (.int .i64 l.term)).setCell ⟨q, 5, none⟩ (.int .i64 l.bytes)).setCell ⟨q, 6, none⟩ (.slice sa l.sums.length sc))) ?_ ⟨undef, rfl, hJ.1.trans HX9 (fun z hz => .inl hz), fun h => (by have h' : f 6 = false := h; rw [((hd ⟨6, .chain⟩ (by simp) rfl).2 rfl).1] at h'; cases h'), fun _ h => (by cases h), fun _ => HB9⟩
                simp [execOp, h96, h92, c0, c1, c2, c3, cf, cl, Result.andThen, go_sem]
            intro f v g wn hJ hk
            have hfs6 : f 6 = true := ((hk 6 (by decide)).2 rfl).1
            have hfs9 : f 9 = true := ((hk 9 (by decide)).2 rfl).1
            obtain ⟨hx9, -, -, j3⟩ := hJ
            have hbn := j3 hfs9
            have HBn := Hid.of hbn
            have HX9 := Hid.of hx9
            clear hk j3 hbn hx9 cm
            unfold mkAct; simp only [List.zipIdx_cons, List.zipIdx_nil, List.map_cons, List.map_nil, Nat.zero_add, Nat.reduceAdd, List.contains_cons, List.contains_nil, Nat.reduceBEq, Bool.or_false, Bool.or_true, ↓reduceIte, Bool.false_eq_true]
            go_wp2
            go_ret
            have hqs : q ∉ vblocks (.slice sa l.sums.length sc) := fun hm => by have := (HVS.out q hm).1; have := Blk.lt H.out.blk; omega
            have hss : Sums w6 (.slice sa l.sums.length sc) l.sums := HK6.out.rd HSl4.out HPs.out
            have hkk : Kept O w wn := ((Kept.of HXw4.out).trans (HK6.out.sub HPO.out)).trans (fun z hz o ho => HX9.out.heap (by simp; intro h; subst h; exact H.out.no hz) ho)
            refine PutTo.mk (sv' := .slice sa l.sums.length sc) (by rw [HX.out, HPE5.out]; rfl) ⟨?_, ?_, ?_, HSok.out l HR1.out, H.out.newq, hqs, H.out.no, fun z hz hm => (by have := (HVS.out z hz).1; have := H.out.lt z hm; omega)⟩ hkk
            · unfold StB putS
              rw [← HAp.out]
              exact HBn.out
            · exact hss.keep HX9.out (fun z hz hm => hqs (by simp at hm; exact hm ▸ hz))
            · refine (HD6.out.other HX9.out HPq.out.1 H.out.newq).sub (fun z hz => ?_)
              simp only [List.mem_cons, List.mem_append] at hz
              rcases hz with h | h | h
              · exact h ▸ HPq.out.1
              · exact HPs.out z h
              · exact HPO.out z h
          · go_wp2_with ((go_at_call 41; (with_reducible refine cc5.mono ?_); rintro e w6 ⟨rfl, hd6, hk6⟩; have HD6 := Hid.of hd6; have HK6 := Hid.of (HK5.out.trans hk6); clear hd6 hk6 cc5 r0 r1 r2 r3))
            go_ret
            obtain ⟨hs9, hk9⟩ := H.out.devt (HD6.out.sub (HPall.out)) ((Kept.of HXw4.out).trans (HK6.out.sub HPall.out))
            exact PutTo.mk (by rw [HX.out, HPE5.out]; simp [h3]) hs9 hk9
        · have HN : Hid (PR = (E2, D5)) := Hid.of (by rw [HPE2.out, HW.out]; exact if_neg h0)
          go_wp2_with ((go_at_call 40; (with_reducible refine cf.mono ?_); rintro e w5 ⟨rfl, hd5, hk5⟩; have HD5 := Hid.of hd5; have HK5 := Hid.of (hK1.out.trans hk5); clear hd5 hk5 cf cbx))
          go_ret
          obtain ⟨hs9, hk9⟩ := H.out.devt (HD5.out.sub (HPall.out)) ((Kept.of HXw4.out).trans (HK5.out.sub HPall.out))
          exact PutTo.mk (by rw [HX.out, HN.out]; simp [h0]) hs9 hk9
set_option maxRecDepth 100000 in
set_option maxHeartbeats 25600000 in
theorem put_goB (h : StM w0 w q b sv D s n O) (hcase : 0 ≤ s.area) (i t : Int) (d : List UInt8) (hd : d.length ≤ 1000000) (hk : putOk s (ofL i t d)) (hlen : D.since.length ≤ 900000) :
    Calls Try.prog 14 #[.pointer (some ⟨q, 0, none⟩), .int .i64 i, .int .i64 t, str d] w (PutTo w0 w q b (putX s i t d D) n O) := by
  have co := ofl_any i t d w (by omega)
  have cc := fun w' => cut_any d w' (by omega : d.length ≤ 1000000000)
  have hRt := (ofL_right i t d).1 hk.1
  obtain ⟨hi1, hi2, ht1, ht2, hdl⟩ := hRt
  have hX : putX s i t d D = ((putR s i t d D).1, (putR s i t d D).2, if (putR s i t d D).1 = 0 then putS s (ofL i t d) else s) := by unfold putX; rw [if_pos hk]
  have hpe := putR_eq s i t d D
  have hK64 : (cutL d).length ≤ 64 := by rw [cutL_length]; omega
  have hcg : ∀ (k : Nat) (x : List UInt8), (cutL d)[k]? = some x → putE (chunkRec i k x) = 0 ∧ x.length ≤ 400 ∧ (chW s (putA s) i d)[k]? = some (s.b (putA s) (2 + (k : Int)), chunkRec i k x) := by
    intro k x hx
    obtain ⟨hk, rfl⟩ := List.getElem?_eq_some_iff.1 hx
    have h4 := (cutL_piece d k hk).2.2.1
    exact ⟨chunk_put ⟨hi1, hi2⟩ (by omega) h4, h4, by rw [List.getElem?_eq_getElem (by rw [chW_length]; exact hk), chW_get s (putA s) i d k hk]⟩
  have hcl := chW_length s (putA s) i d
  have hA01 : putA s = 0 ∨ putA s = 1 := by unfold putA; split; exact .inr rfl; exact .inl rfl
  have HAdef : Hid (putA s = if s.area = 0 then 1 else 0) := Hid.of rfl
  have hidx : (ofL i t d).idx = i := rfl
  have hbt : (ofL i t d).bytes = d.length := rfl
  have cr := fun sl w' (hs : Sums w' sl (ofL i t d).sums) => right_any (ofL i t d) sl w' hs (by rw [hbt]; omega)
  rw [decide_eq_true hk.1] at cr
  have hr1 := hk.1
  have hst : ¬ (0 ≤ s.area ∧ i ≤ s.list.idx) := hk.2
  have hok := h.ok
  have hSok : ∀ l : Ls, l.right → StOk (putS s l) n := fun l hl => ⟨hok.base, hok.fit, hok.big, by unfold putS; simp only; omega, .inr hl, fun _ => hl⟩
  have hb0 : 0 ≤ s.base ∧ s.base ≤ 4096 := ⟨hok.base, by have := hok.fit; have := hok.big; omega⟩
  obtain ⟨l, hl⟩ : ∃ l, l = ofL i t d := ⟨_, rfl⟩
  rw [← hl] at co hX cr hidx hr1
  obtain ⟨ps, hps⟩ : ∃ ps, ps = cutL d := ⟨_, rfl⟩
  simp only [← hps] at cc hcg hcl hK64
  obtain ⟨PR, hPR⟩ : ∃ x, x = putR s i t d D := ⟨_, rfl⟩
  rw [← hPR] at hX hpe
  rw [← hl] at hpe
  obtain ⟨CW, hCW⟩ : ∃ x, x = chW s (putA s) i d := ⟨_, rfl⟩
  rw [← hCW] at hpe hcl
  simp only [← hCW] at hcg
  obtain ⟨PX, hPX⟩ : ∃ x, x = putX s i t d D := ⟨_, rfl⟩
  rw [← hPX] at hX ⊢
  obtain ⟨aa, hA⟩ : ∃ x, x = putA s := ⟨_, rfl⟩
  simp only [← hA] at hcg HAdef hA01
  rw [← hA] at hpe
  clear hl hps hPR hCW hPX hbt hk
  have H := Hid.of h
  have HX := Hid.of hX
  have HPE := Hid.of hpe
  have HCG := Hid.of hcg
  have HCL := Hid.of hcl
  have HSok := Hid.of hSok
  have HAp := Hid.of hA
  have HLen := Hid.of hlen
  have HR1 := Hid.of hr1
  have HB0 := Hid.of hb0
  have cq := fun w' (hx : Ext [] w w') => StB.cells (Blk.keep h.blk hx (by simp) : StB w' q b sv s)
  have hdl2 : (d.length : Int) ≤ 25600 := by omega
  have hst2 := hst
  clear h hX hpe hcg hcl hSok hA hlen hr1 hb0 hok hidx hdl
  generalize hai : s.area = ar at cq hst HAdef hcase
  generalize hli : s.list.idx = li at cq hst
  generalize s.list.term = lt at cq
  generalize s.list.bytes = lb at cq
  generalize s.base = sbase at cq
  clear hai hli
  go_enter Try.func14, Try.ntmps14
  go_wp2_with fail
  refine co.mono ?_
  rintro e w1 ⟨sl, rfl, ho1, hx1, hv1⟩
  obtain ⟨sa, sc, rfl⟩ := Rd.isSlice ho1.rd
  obtain ⟨R, hR⟩ : ∃ R, R = w1.heap.size := ⟨_, rfl⟩
  obtain ⟨w2, hw2⟩ : ∃ w2, w2 = w1.alloc (.cells #[.int .i64 l.idx, .int .i64 l.term, .int .i64 l.bytes, .slice sa l.sums.length sc] 42) := ⟨_, rfl⟩
  have hx12 : Ext [] w1 w2 := by rw [hw2]; exact (Ext.refl _ _).alloc _
  have hx2 : Ext [] w w2 := hx1.then0 hx12
  have hs2 : Sums w2 (.slice sa l.sums.length sc) l.sums := by rw [hw2]; exact ho1.rd.alloc _
  have HBR2 : Hid (Blk w2 R 42 [.int .i64 l.idx, .int .i64 l.term, .int .i64 l.bytes, .slice sa l.sums.length sc]) := Hid.of (by rw [hw2]; exact Blk.newg hR.symm)
  have HVS : Hid (∀ z ∈ vblocks (.slice sa l.sums.length sc), w.heap.size ≤ z ∧ z < R) := Hid.of (fun z hz => ⟨hv1 z hz, by rw [hR]; exact ho1.lt z hz⟩)
  have HRw : Hid (w.heap.size ≤ R ∧ R < w2.heap.size) := Hid.of ⟨by rw [hR]; exact hx1.size, Blk.lt HBR2.out⟩
  have c2 := cr _ w2 hs2
  clear co cr ho1 hv1 hx1 hx12
  unfold lsv at c2 ⊢
  go_wp2_with fail
  rw [← hw2, ← hR]
  clear hw2 hR
  refine c2.mono ?_
  rintro e w3 ⟨rfl, hx3⟩
  have HX3 := Hid.of (hx2.then0 hx3)
  have HBR3 := Hid.of (Blk.keep HBR2.out hx3 (by simp))
  have HS3 := Hid.of (hs2.keep0 hx3)
  have HR3 : Hid (w.heap.size ≤ R ∧ R < w3.heap.size) := Hid.of ⟨HRw.out.1, Nat.lt_of_lt_of_le HRw.out.2 hx3.size⟩
  have cq3 := fun w' (hx : Ext [] w3 w') => cq w' (HX3.out.then0 hx)
  clear c2 hx2 hx3 hs2 HBR2 HRw
  obtain ⟨c0, -, c2, c3, -, -, -⟩ := cq3 w3 (Ext.refl _ _)
  generalize hrow : [Value.int .i64 l.idx, .int .i64 l.term, .int .i64 l.bytes, .slice sa l.sums.length sc] = row at HBR3
  have HROW := Hid.of hrow
  clear hrow
  have e1 : decide (0 ≤ ar) = true := decide_eq_true hcase
  have e2 : decide (i ≤ li) = false := decide_eq_false (fun h => hst ⟨hcase, h⟩)
  go_upto_if 47 with fail
  go_cut [10] (fun v wx => v = .int .i64 aa ∧ Hid (Ext [] w3 wx))
  case first =>
    by_cases ha0 : ar = 0
    · have HA1 : Hid (aa = 1) := Hid.of (HAdef.out.trans (if_pos ha0))
      subst ha0
      go_wp2
      go_meet
      exact ⟨by rw [HA1.out], Ext.refl _ _⟩
    · have HA1 : Hid (aa = 0) := Hid.of (HAdef.out.trans (if_neg ha0))
      have e0 : (ar == 0) = false := by simp [ha0]
      go_wp2
      go_meet
      exact ⟨by rw [HA1.out], Ext.refl _ _⟩
  case rest =>
    obtain ⟨rfl, HXc⟩ := hcut
    clear e1 c0 c2 c3
    go_wp2_with fail
    refine (cc wc).mono ?_
    rintro e w4 ⟨ss, rfl, ho4, hx4, hv4⟩
    obtain ⟨nk, hK⟩ : ∃ nk, nk = ps.length := ⟨_, rfl⟩
    rw [← hK] at ho4
    obtain ⟨za, zc, rfl⟩ := Rd.isSlice ho4.rd
    have HX4 := Hid.of (HXc.out.then0 hx4)
    have HS4 : Hid (Rd w4 1 (.slice za nk zc) nk (ps.map str)) := Hid.of ho4.rd
    have HV4 : Hid (∀ z ∈ vblocks (.slice za nk zc), w3.heap.size ≤ z ∧ z < w4.heap.size) := Hid.of (fun z hz => ⟨Nat.le_trans HXc.out.size (hv4 z hz), ho4.lt z hz⟩)
    have HK := Hid.of hK
    have hK2 : (nk : Int) ≤ 64 := by omega
    have HM4 : Hid (DevO w0 w4 b D (R :: (vblocks (.slice za nk zc) ++ (vblocks (.slice sa l.sums.length sc) ++ (q :: (vblocks sv ++ O)))))) := Hid.of (by
      have h1 := H.out.dev.addL HX3.out (R :: vblocks (.slice sa l.sums.length sc)) (fun z hz => by
        rcases List.mem_cons.1 hz with rfl | hz
        · exact HR3.out
        · have := HVS.out z hz; have := HR3.out; omega)
      have h2 := h1.addL HX4.out (vblocks (.slice za nk zc)) (fun z hz => HV4.out z hz)
      refine h2.sub (fun z hz => ?_)
      simp only [List.mem_cons, List.mem_append] at hz ⊢
      rcases hz with h | h | h | h
      · exact .inr (.inl (.inl h))
      · exact .inl h
      · exact .inr (.inl (.inr h))
      · exact .inr (.inr h))
    clear ho4 hv4 hx4 cc hK HXc
    obtain ⟨P, hP⟩ : ∃ P, P = R :: (vblocks (.slice za nk zc) ++ (vblocks (.slice sa l.sums.length sc) ++ (q :: (vblocks sv ++ O)))) := ⟨_, rfl⟩
    rw [← hP] at HM4
    have HPz : Hid (∀ z ∈ vblocks (.slice za nk zc), z ∈ P) := Hid.of (fun z hz => by rw [hP]; simp only [List.mem_cons, List.mem_append]; exact .inr (.inl hz))
    have HPs : Hid (∀ z ∈ vblocks (.slice sa l.sums.length sc), z ∈ P) := Hid.of (fun z hz => by rw [hP]; simp only [List.mem_cons, List.mem_append]; exact .inr (.inr (.inl hz)))
    have HPq : Hid (q ∈ P ∧ R ∈ P) := Hid.of (by rw [hP]; simp)
    have HPO : Hid (∀ z ∈ O, z ∈ P) := Hid.of (fun z hz => by rw [hP]; simp only [List.mem_cons, List.mem_append]; exact .inr (.inr (.inr (.inr (.inr hz)))))
    have HPv : Hid (∀ z ∈ vblocks sv, z ∈ P) := Hid.of (fun z hz => by rw [hP]; simp only [List.mem_cons, List.mem_append]; exact .inr (.inr (.inr (.inr (.inl hz)))))
    have HPall : Hid (∀ z ∈ q :: (vblocks sv ++ O), z ∈ P) := Hid.of (fun z hz => by rw [hP]; simp only [List.mem_cons, List.mem_append] at hz ⊢; exact .inr (.inr (.inr hz)))
    have HB4 : Hid (StB w4 q b sv s) := Hid.of (Blk.keep H.out.blk (HX3.out.then0 HX4.out) (by simp))
    have HBR4 := Hid.of (Blk.keep HBR3.out HX4.out (by simp))
    have HSl4 : Hid (Sums w4 (.slice sa l.sums.length sc) l.sums) := Hid.of (HS3.out.keep0 HX4.out)
    have HXw4 := Hid.of (HX3.out.then0 HX4.out)
    have HR4 : Hid (w.heap.size ≤ R ∧ R < w4.heap.size) := Hid.of ⟨HR3.out.1, Nat.lt_of_lt_of_le HR3.out.2 HX4.out.size⟩
    have HWF := Hid.of (fun m => wrs_since (CW.take m) D)
    have HPE2 : Hid (PR = if (wrf CW D).1 = 0 then copsD s aa l (wrf CW D).2 else wrf CW D) := HPE
    clear hP HX3 HX4 HBR3 HS3 HR3 cq3 cq HPE
    go_upto_region 8 with fail
    go_loopw [51] (fun u51 wr => ∃ (k : Nat), u51 = .int .i64 (k : Int) ∧ k ≤ nk ∧ Hid ((wrs (CW.take k) D).1 = 0) ∧ Hid (DevO w0 wr b (wrs (CW.take k) D).2 P) ∧ Hid (Kept P w4 wr)) (fun u51 _ => nk - (intOf u51).toNat)
    case atStart => exact ⟨0, rfl, by omega, rfl, HM4, Kept.refl _ _⟩
    case round =>
      obtain ⟨k, rfl, hkK, hE0, hM1, hK1⟩ := hrel
      by_cases hlt : k < nk
      · have hlt2 : (k : Int) < (nk : Int) := by omega
        have hkp : k < ps.length := by have := HK.out; omega
        obtain ⟨x, hx⟩ : ∃ x, ps[k]? = some x := ⟨_, List.getElem?_eq_getElem hkp⟩
        obtain ⟨hpx, hxl, hcx⟩ := HCG.out k x hx
        obtain ⟨hkc, hcx2⟩ := List.getElem?_eq_some_iff.1 hcx
        have HT : Hid (wrs (CW.take (k + 1)) D = (swE (s.b aa (2 + (k : Int))) (chunkRec i k x) (wrs (CW.take k) D).2, swD (s.b aa (2 + (k : Int))) (chunkRec i k x) (wrs (CW.take k) D).2)) := Hid.of (by rw [wrs_next hkc hE0.out, hcx2])
        have HF : Hid ((wrs (CW.take (k + 1)) D).1 ≠ 0 → wrf CW D = wrs (CW.take (k + 1)) D) := Hid.of (fun h => wrf_fail h)
        have hRr : Rd wr 1 (.slice za nk zc) nk (ps.map str) := hK1.out.rd HS4.out HPz.out
        obtain ⟨zg, off, rfl, hgw, hc⟩ := hRr.view (by omega)
        have c0 : wr.cell? ⟨zg, off + k, none⟩ = some (str x) := hc k _ (by rw [List.getElem?_map, hx]; rfl)
        have hsin : (wrs (CW.take k) D).2.since.length ≤ 1000000 := by
          have h1 := HWF.out k
          have h2 : (CW.take k).length ≤ nk := by rw [List.length_take]; omega
          have h3 := HLen.out
          omega
        have HWf := wf_of_put hpx
        have hBr := fun w' (hx : Ext [] wr w') => (Blk.keep (hK1.out.blk HB4.out HPq.out.1) hx (by simp) : StB w' q b sv s)
        have cb := fun w' (hx : Ext [] wr w') => block_o (hBr w' hx) HB0.out aa (2 + (k : Int)) (by omega) (by omega)
        have cq := fun w' (hx : Ext [] wr w') => (StB.cells (hBr w' hx)).1
        have cw := fun w' (hx : Ext [] wr w') => swrite_o b (wrs (CW.take k) D).2 (s.b aa (2 + (k : Int))) (chunkRec i k x) w0 w' P (hM1.out.keep hx) hsin HWf
        generalize hE1 : swE (s.b aa (2 + (k : Int))) (chunkRec i k x) (wrs (CW.take k) D).2 = E1 at cw HT
        generalize hD2 : swD (s.b aa (2 + (k : Int))) (chunkRec i k x) (wrs (CW.take k) D).2 = D2 at cw HT
        generalize s.b aa (2 + (k : Int)) = B at cb cw
        simp only [Rc.val, chunkRec] at cw
        clear hE1 hD2 hx hpx hcx hkc hcx2 hRr hgw hc HWf hsin hBr hkp
        go_upto_region 10 with fail
        clear c0
        refine wp_region_u [56, 57, 58, 59, 60, 61, 62, 63, 64, 65, 66, 67, 68, 69, 13] [13] (fun n => match n with | 0 => .pointer (some ⟨q, 0, none⟩) | 1 => .pointer (some ⟨q, 0, none⟩) | 2 => .pointer (some ⟨q, 0, none⟩) | 3 => .pointer (some ⟨b, 0, none⟩) | 4 => .pointer (some ⟨q, 0, none⟩) | 5 => .int .i64 aa | 6 => .int .i64 (k : Int) | 7 => .int .i64 (2 + (k : Int)) | 8 => .int .i64 B | 9 => .int .i64 i | 10 => .int .i64 (k : Int) | 11 => .string ⟨x.toArray⟩ | 12 => .agg #[.int .i64 5, .int .i64 i, .int .i64 (k : Int), .string ⟨x.toArray⟩] | 14 => .int .i64 E1 | _ => undef) (fun f v wx => (f 13 = false → Ext [] wr wx) ∧ (f 13 = true → v 13 = .int .i64 E1 ∧ DevO w0 wx b D2 P ∧ Kept P wr wx)) (by kernel_rfl) (by kernel_rfl) ?hst0_10 ?h00_10 ?hst_10 ?hend_10
        case hst0_10 =>
          rintro f v w w' ⟨j1, j2⟩ hx2
          exact ⟨fun h => (j1 h).then0 hx2, fun h => ⟨(j2 h).1, (j2 h).2.1.keep hx2, (j2 h).2.2.trans (Kept.of hx2)⟩⟩
        case h00_10 =>
          exact ⟨fun _ => Ext.refl _ _, fun h => (by cases h)⟩
        case hst_10 =>
          refine ⟨?f0_10, ?f1_10, ?f2_10, ?f3_10, ?f4_10, ?f5_10, ?f6_10, ?f7_10, ?f8_10, ?f9_10, ?f10_10, ?f11_10, ?f12_10, ?f13_10, ?f14_10, trivial⟩
          case f0_10 =>
            intro f v g w' hJ hfi hb hd
            refine arm_u rfl ?_
            refine op_run rfl ?_
            generalize hA : mkAct _ _ g = A
            have h0 : A.tmps[0]?.getD undef = .pointer (some ⟨q, 0, none⟩) := by rw [← hA]; exact mkAct_out2 _ _ _ _ _ rfl rfl
            refine step_val (v := .pointer (some ⟨q, 0, none⟩)) (w' := w') ?_ ⟨rfl, Ext.refl _ _⟩
            simp [execOp, h0, Result.andThen, go_sem]
          case f1_10 =>
            intro f v g w' hJ hfi hb hd
            refine arm_u rfl ?_
            refine op_run rfl ?_
            have e56 : g 56 = .pointer (some ⟨q, 0, none⟩) := value_u (hd ⟨0, .data⟩ (by simp) rfl) rfl rfl
            generalize hA : mkAct _ _ g = A
            have h56 : A.tmps[56]?.getD undef = .pointer (some ⟨q, 0, none⟩) := by rw [← hA, mkAct_in2 _ _ _ _ rfl rfl]; exact e56
            refine step_val (v := .pointer (some ⟨q, 0, none⟩)) (w' := w') ?_ ⟨rfl, Ext.refl _ _⟩
            simp [execOp, h56, Result.andThen, go_sem]
          case f2_10 =>
            intro f v g w' hJ hfi hb hd
            refine arm_u rfl ?_
            refine op_run rfl ?_
            have e57 : g 57 = .pointer (some ⟨q, 0, none⟩) := value_u (hd ⟨1, .data⟩ (by simp) rfl) rfl rfl
            generalize hA : mkAct _ _ g = A
            have h57 : A.tmps[57]?.getD undef = .pointer (some ⟨q, 0, none⟩) := by rw [← hA, mkAct_in2 _ _ _ _ rfl rfl]; exact e57
            refine step_val (v := .pointer (some ⟨q, 0, none⟩)) (w' := w') ?_ ⟨rfl, Ext.refl _ _⟩
            simp [execOp, h57, Result.andThen, go_sem]
          case f3_10 =>
            intro f v g w' hJ hfi hb hd
            refine arm_u rfl ?_
            refine op_run rfl ?_
            have e58 : g 58 = .pointer (some ⟨q, 0, none⟩) := value_u (hd ⟨2, .data⟩ (by simp) rfl) rfl rfl
            generalize hA : mkAct _ _ g = A
            have h58 : A.tmps[58]?.getD undef = .pointer (some ⟨q, 0, none⟩) := by rw [← hA, mkAct_in2 _ _ _ _ rfl rfl]; exact e58
            have c := cq w' (hJ.1 (not_yet hb (by kernel_rfl)))
            refine step_val (v := .pointer (some ⟨b, 0, none⟩)) (w' := w') ?_ ⟨rfl, Ext.refl _ _⟩
            simp [execOp, h58, c, Result.andThen, go_sem]
          case f4_10 =>
            intro f v g w' hJ hfi hb hd
            refine arm_u rfl ?_
            refine op_run rfl ?_
            generalize hA : mkAct _ _ g = A
            have h0 : A.tmps[0]?.getD undef = .pointer (some ⟨q, 0, none⟩) := by rw [← hA]; exact mkAct_out2 _ _ _ _ _ rfl rfl
            refine step_val (v := .pointer (some ⟨q, 0, none⟩)) (w' := w') ?_ ⟨rfl, Ext.refl _ _⟩
            simp [execOp, h0, Result.andThen, go_sem]
          case f5_10 =>
            intro f v g w' hJ hfi hb hd
            refine arm_u rfl ?_
            refine op_run rfl ?_
            generalize hA : mkAct _ _ g = A
            have h10 : A.tmps[10]?.getD undef = .int .i64 aa := by rw [← hA]; exact mkAct_out2 _ _ _ _ _ rfl rfl
            refine step_val (v := .int .i64 aa) (w' := w') ?_ ⟨rfl, Ext.refl _ _⟩
            simp [execOp, h10, Result.andThen, go_sem]
          case f6_10 =>
            intro f v g w' hJ hfi hb hd
            refine arm_u rfl ?_
            refine op_run rfl ?_
            generalize hA : mkAct _ _ g = A
            have h11 : A.tmps[11]?.getD undef = .int .i64 (k : Int) := by rw [← hA]; exact mkAct_out2 _ _ _ _ _ rfl rfl
            refine step_val (v := .int .i64 (k : Int)) (w' := w') ?_ ⟨rfl, Ext.refl _ _⟩
            simp [execOp, h11, Result.andThen, go_sem]
          case f7_10 =>
            intro f v g w' hJ hfi hb hd
            refine arm_u rfl ?_
            refine op_run rfl ?_
            have e62 : g 62 = .int .i64 (k : Int) := value_u (hd ⟨6, .data⟩ (by simp) rfl) rfl rfl
            generalize hA : mkAct _ _ g = A
            have h62 : A.tmps[62]?.getD undef = .int .i64 (k : Int) := by rw [← hA, mkAct_in2 _ _ _ _ rfl rfl]; exact e62
            refine step_val (v := .int .i64 (2 + (k : Int))) (w' := w') ?_ ⟨rfl, Ext.refl _ _⟩
            simp [execOp, h62, Result.andThen, go_sem]
            exact IntWalk.i64_in _ ⟨by omega, by omega⟩
          case f8_10 =>
            intro f v g w' hJ hfi hb hd
            refine arm_u rfl ?_
            refine op_run rfl ?_
            have e60 : g 60 = .pointer (some ⟨q, 0, none⟩) := value_u (hd ⟨4, .data⟩ (by simp) rfl) rfl rfl
            have e61 : g 61 = .int .i64 aa := value_u (hd ⟨5, .data⟩ (by simp) rfl) rfl rfl
            have e63 : g 63 = .int .i64 (2 + (k : Int)) := value_u (hd ⟨7, .data⟩ (by simp) rfl) rfl rfl
            generalize hA : mkAct _ _ g = A
            have h60 : A.tmps[60]?.getD undef = .pointer (some ⟨q, 0, none⟩) := by rw [← hA, mkAct_in2 _ _ _ _ rfl rfl]; exact e60
            have h61 : A.tmps[61]?.getD undef = .int .i64 aa := by rw [← hA, mkAct_in2 _ _ _ _ rfl rfl]; exact e61
            have h63 : A.tmps[63]?.getD undef = .int .i64 (2 + (k : Int)) := by rw [← hA, mkAct_in2 _ _ _ _ rfl rfl]; exact e63
            refine float_u (fun K hK => ?_)
            go_simp
            refine (cb w' (hJ.1 (not_yet hb (by kernel_rfl)))).mono ?_
            rintro e w2 ⟨rfl, hx2⟩
            exact hK w2 hx2
          case f9_10 =>
            intro f v g w' hJ hfi hb hd
            refine arm_u rfl ?_
            refine op_run rfl ?_
            generalize hA : mkAct _ _ g = A
            have h1 : A.tmps[1]?.getD undef = .int .i64 i := by rw [← hA]; exact mkAct_out2 _ _ _ _ _ rfl rfl
            refine step_val (v := .int .i64 i) (w' := w') ?_ ⟨rfl, Ext.refl _ _⟩
            simp [execOp, h1, Result.andThen, go_sem]
          case f10_10 =>
            intro f v g w' hJ hfi hb hd
            refine arm_u rfl ?_
            refine op_run rfl ?_
            generalize hA : mkAct _ _ g = A
            have h11 : A.tmps[11]?.getD undef = .int .i64 (k : Int) := by rw [← hA]; exact mkAct_out2 _ _ _ _ _ rfl rfl
            refine step_val (v := .int .i64 (k : Int)) (w' := w') ?_ ⟨rfl, Ext.refl _ _⟩
            simp [execOp, h11, Result.andThen, go_sem]
          case f11_10 =>
            intro f v g w' hJ hfi hb hd
            refine arm_u rfl ?_
            refine op_run rfl ?_
            generalize hA : mkAct _ _ g = A
            have h12 : A.tmps[12]?.getD undef = .string ⟨x.toArray⟩ := by rw [← hA]; exact mkAct_out2 _ _ _ _ _ rfl rfl
            refine step_val (v := .string ⟨x.toArray⟩) (w' := w') ?_ ⟨rfl, Ext.refl _ _⟩
            simp [execOp, h12, Result.andThen, go_sem]
          case f12_10 =>
            intro f v g w' hJ hfi hb hd
            refine arm_u rfl ?_
            refine op_run rfl ?_
            have e65 : g 65 = .int .i64 i := value_u (hd ⟨9, .data⟩ (by simp) rfl) rfl rfl
            have e66 : g 66 = .int .i64 (k : Int) := value_u (hd ⟨10, .data⟩ (by simp) rfl) rfl rfl
            have e67 : g 67 = .string ⟨x.toArray⟩ := value_u (hd ⟨11, .data⟩ (by simp) rfl) rfl rfl
            generalize hA : mkAct _ _ g = A
            have h65 : A.tmps[65]?.getD undef = .int .i64 i := by rw [← hA, mkAct_in2 _ _ _ _ rfl rfl]; exact e65
            have h66 : A.tmps[66]?.getD undef = .int .i64 (k : Int) := by rw [← hA, mkAct_in2 _ _ _ _ rfl rfl]; exact e66
            have h67 : A.tmps[67]?.getD undef = .string ⟨x.toArray⟩ := by rw [← hA, mkAct_in2 _ _ _ _ rfl rfl]; exact e67
            refine step_val (v := .agg #[.int .i64 5, .int .i64 i, .int .i64 (k : Int), .string ⟨x.toArray⟩]) (w' := w') ?_ ⟨rfl, Ext.refl _ _⟩
            simp [execOp, h65, h66, h67, Result.andThen, go_sem]
          case f13_10 =>
            intro f v g w' hJ hfi hb hd
            refine arms_u rfl ?_
            refine op_run rfl ?_
            have e59 : g 59 = .pointer (some ⟨b, 0, none⟩) := value_u (hd ⟨3, .data⟩ (by simp) rfl) rfl rfl
            have e64 : g 64 = .int .i64 B := value_u (hd ⟨8, .data⟩ (by simp) rfl) rfl rfl
            have e68 : g 68 = .agg #[.int .i64 5, .int .i64 i, .int .i64 (k : Int), .string ⟨x.toArray⟩] := value_u (hd ⟨12, .data⟩ (by simp) rfl) rfl rfl
            generalize hA : mkAct _ _ g = A
            have h59 : A.tmps[59]?.getD undef = .pointer (some ⟨b, 0, none⟩) := by rw [← hA, mkAct_in2 _ _ _ _ rfl rfl]; exact e59
            have h64 : A.tmps[64]?.getD undef = .int .i64 B := by rw [← hA, mkAct_in2 _ _ _ _ rfl rfl]; exact e64
            have h68 : A.tmps[68]?.getD undef = .agg #[.int .i64 5, .int .i64 i, .int .i64 (k : Int), .string ⟨x.toArray⟩] := by rw [← hA, mkAct_in2 _ _ _ _ rfl rfl]; exact e68
            refine mid_u (fun K hK => ?_)
            go_simp
            refine (cw w' (hJ.1 hfi)).mono ?_
            rintro e w2 ⟨rfl, hd2, hk2⟩
            exact hK (.int .i64 E1) w2 ⟨fun h => (by cases h), fun _ => ⟨setU_same _ _ _, hd2, (Kept.of (hJ.1 hfi)).trans hk2⟩⟩
          case f14_10 =>
            intro f v g w' hJ hfi hb hd
            refine arm_u rfl ?_
            refine op_run rfl ?_
            obtain ⟨hf69, e69⟩ := special_u (hd ⟨13, .data⟩ (by simp) rfl) rfl rfl
            replace e69 : g 69 = v 13 := e69
            have e13x := (hJ.2 hf69).1
            rw [e13x] at e69
            generalize hA : mkAct _ _ g = A
            have h69 : A.tmps[69]?.getD undef = .int .i64 E1 := by rw [← hA, mkAct_in2 _ _ _ _ rfl rfl]; exact e69
            refine step_val (v := .int .i64 E1) (w' := w') ?_ ⟨rfl, Ext.refl _ _⟩
            simp [execOp, h69, Result.andThen, go_sem]
        intro f v g wn hJ hk
        have e13 : g 13 = .int .i64 E1 := value_u (hk 14 (by decide)) rfl rfl
        obtain ⟨-, j2⟩ := hJ
        obtain ⟨-, hd2, hk2⟩ := j2 ((hk 13 (by decide)).2 rfl).1
        have HD2 := Hid.of hd2
        have HK2 := Hid.of (hK1.out.trans hk2)
        clear cb cq cw j2 hk hd2 hk2
        unfold mkAct; simp only [List.zipIdx_cons, List.zipIdx_nil, List.map_cons, List.map_nil, Nat.zero_add, Nat.reduceAdd, List.contains_cons, List.contains_nil, Nat.reduceBEq, Bool.or_false, Bool.or_true, ↓reduceIte, Bool.false_eq_true]
        rw [e13]
        clear e13
        by_cases h0 : E1 = 0
        · subst h0
          go_wp2
          go_roundw
          case rel =>
            refine ⟨k + 1, by congr 1, by omega, show _ = _ by rw [HT.out], ?_, HK2.out⟩
            rw [HT.out]
            exact HD2.out
          case measure => simp [intOf]; omega
        · have HN : Hid (PR = (E1, D2)) := Hid.of (by
            have e1 := HF.out (by rw [HT.out]; exact h0)
            rw [HT.out] at e1
            rw [HPE2.out, e1, if_neg h0])
          go_wp2
          go_ret
          obtain ⟨hs9, hk9⟩ := H.out.devt (HD2.out.sub (HPall.out)) ((Kept.of HXw4.out).trans (HK2.out.sub HPall.out))
          exact PutTo.mk (by rw [HX.out, HN.out]; simp [h0]) hs9 hk9
      · obtain rfl : k = nk := by omega
        have e1 : CW.take k = CW := List.take_of_length_le (by have := HK.out; have := HCL.out; omega)
        rw [e1] at hE0 hM1
        have HW : Hid (wrf CW D = (turnE (wrs CW D).2, flushD (wrs CW D).2)) := Hid.of (wrf_end hE0.out)
        have HS5 : Hid ((wrf CW D).2.since.length + 2 ≤ 1000000) := Hid.of (by have := wrf_since CW D; have := HLen.out; have := HK.out; have := HCL.out; omega)
        have cbx := (StB.cells (hK1.out.blk HB4.out HPq.out.1 : StB wr q b sv s)).1
        have cf := flush_o b (wrs CW D).2 w0 wr _ hM1.out
        obtain ⟨WF, hWF⟩ : ∃ x, x = wrf CW D := ⟨_, rfl⟩
        rw [← hWF] at HPE2 HW HS5
        generalize (wrs CW D).2 = DW at cf HW
        generalize turnE DW = E2 at cf HW
        generalize flushD DW = D5 at cf HW
        clear e1 hE0 hWF hM1 HWF HCG
        by_cases h0 : E2 = 0
        · have HPE5 : Hid (PR = copsD s aa l D5) := Hid.of (by rw [HPE2.out, HW.out]; exact if_pos h0)
          have HS6 : Hid (D5.since.length + 2 ≤ 1000000) := Hid.of (by have := HS5.out; rw [HW.out] at this; exact this)
          subst h0
          clear HPE2 HW HS5
          go_upto_if 80 with ((go_at_call 40; (with_reducible refine cf.mono ?_); rintro e w5 ⟨rfl, hd5, hk5⟩; have HD5 := Hid.of hd5; have HK5 := Hid.of (hK1.out.trans hk5); clear hd5 hk5 cf cbx))
          have HB5 : Hid (StB w5 q b sv s) := Hid.of (HK5.out.blk HB4.out HPq.out.1)
          have HSl5 : Hid (Sums w5 (.slice sa l.sums.length sc) l.sums) := Hid.of (HK5.out.rd HSl4.out HPs.out)
          have cc5 := copies_o l (.slice sa l.sums.length sc) aa HB5.out HD5.out HPq.out.1 HSl5.out HPs.out hA01 HR1.out HB0.out HS6.out
          have cR5 := HK5.out.blk HBR4.out HPq.out.2
          rw [← HROW.out] at cR5
          obtain ⟨r0, r1, r2, r3⟩ := Blk4 cR5
          generalize copsD s aa l D5 = C at cc5 HPE5
          obtain ⟨E3, D6⟩ := C
          unfold lsv at cc5
          simp only at cc5
          clear cR5
          by_cases h3 : E3 = 0
          · subst h3
            go_upto_if 87 with ((go_at_call 41; (with_reducible refine cc5.mono ?_); rintro e w6 ⟨rfl, hd6, hk6⟩; have HD6 := Hid.of hd6; have HK6 := Hid.of (HK5.out.trans hk6); clear hd6 hk6 cc5 r0 r1 r2 r3))
            have HBq : Hid (Blk w6 q 84 [.pointer (some ⟨b, 0, none⟩), .int .i64 s.base, .int .i64 s.area, .int .i64 s.list.idx, .int .i64 s.list.term, .int .i64 s.list.bytes, sv]) := Hid.of (HK6.out.blk HB4.out HPq.out.1)
            have cm : Blk w6 R 42 [.int .i64 l.idx, .int .i64 l.term, .int .i64 l.bytes, .slice sa l.sums.length sc] := by rw [HROW.out]; exact HK6.out.blk HBR4.out HPq.out.2
            have hRq : R ∉ [q] := by have := HR4.out; have := Blk.lt H.out.blk; simp; omega
            go_upto_region 20 with fail
            refine wp_region_u [89, 90, 91, 92, 93, 94, 95, 96] [6, 9] (fun n => match n with | 0 => .pointer (some ⟨q, 0, none⟩) | 1 => .pointer (some ⟨q, 0, none⟩) | 2 => .int .i64 aa | 3 => .agg #[.int .i64 l.idx, .int .i64 l.term, .int .i64 l.bytes, .slice sa l.sums.length sc] | 4 => .pointer (some ⟨q, 0, none⟩) | 5 => .pointer (some ⟨q, 2, none⟩) | 7 => .pointer (some ⟨q, 0, none⟩) | 8 => .pointer (some ⟨q, 3, none⟩) | _ => undef) (fun f v wx => Ext [q] w6 wx ∧ (f 6 = false → Blk wx q 84 [.pointer (some ⟨b, 0, none⟩), .int .i64 s.base, .int .i64 s.area, .int .i64 s.list.idx, .int .i64 s.list.term, .int .i64 s.list.bytes, sv]) ∧ (f 6 = true → f 9 = false → Blk wx q 84 [.pointer (some ⟨b, 0, none⟩), .int .i64 s.base, .int .i64 aa, .int .i64 s.list.idx, .int .i64 s.list.term, .int .i64 s.list.bytes, sv]) ∧ (f 9 = true → Blk wx q 84 [.pointer (some ⟨b, 0, none⟩), .int .i64 s.base, .int .i64 aa, .int .i64 l.idx, .int .i64 l.term, .int .i64 l.bytes, .slice sa l.sums.length sc])) (by kernel_rfl) (by kernel_rfl) ?hst0_20 ?h00_20 ?hst_20 ?hend_20
            case hst0_20 =>
              rintro f v w w' ⟨hx, j1, j2, j3⟩ hx2
              exact ⟨hx.then0 hx2, fun h => Blk.keep (j1 h) hx2 List.not_mem_nil, fun h h' => Blk.keep (j2 h h') hx2 List.not_mem_nil, fun h => Blk.keep (j3 h) hx2 List.not_mem_nil⟩
            case h00_20 =>
              exact ⟨Ext.refl _ _, fun _ => HBq.out, fun h => (by cases h), fun h => (by cases h)⟩
            case hst_20 =>
              refine ⟨?f0_20, ?f1_20, ?f2_20, ?f3_20, ?f4_20, ?f5_20, ?f6_20, ?f7_20, ?f8_20, ?f9_20, trivial⟩
              case f0_20 =>
                intro f v g w' hJ hfi hb hd
                refine arm_u rfl ?_
                refine op_run rfl ?_
                generalize hA : mkAct _ _ g = A
                have h0 : A.tmps[0]?.getD undef = .pointer (some ⟨q, 0, none⟩) := by rw [← hA]; exact mkAct_out2 _ _ _ _ _ rfl rfl
                refine step_val (v := .pointer (some ⟨q, 0, none⟩)) (w' := w') ?_ ⟨rfl, Ext.refl _ _⟩
                simp [execOp, h0, Result.andThen, go_sem]
              case f1_20 =>
                intro f v g w' hJ hfi hb hd
                refine arm_u rfl ?_
                refine op_run rfl ?_
                generalize hA : mkAct _ _ g = A
                have h0 : A.tmps[0]?.getD undef = .pointer (some ⟨q, 0, none⟩) := by rw [← hA]; exact mkAct_out2 _ _ _ _ _ rfl rfl
                refine step_val (v := .pointer (some ⟨q, 0, none⟩)) (w' := w') ?_ ⟨rfl, Ext.refl _ _⟩
                simp [execOp, h0, Result.andThen, go_sem]
              case f2_20 =>
                intro f v g w' hJ hfi hb hd
                refine arm_u rfl ?_
                refine op_run rfl ?_
                generalize hA : mkAct _ _ g = A
                have h10 : A.tmps[10]?.getD undef = .int .i64 aa := by rw [← hA]; exact mkAct_out2 _ _ _ _ _ rfl rfl
                refine step_val (v := .int .i64 aa) (w' := w') ?_ ⟨rfl, Ext.refl _ _⟩
                simp [execOp, h10, Result.andThen, go_sem]
              case f3_20 =>
                intro f v g w' hJ hfi hb hd
                refine arm_u rfl ?_
                refine op_run rfl ?_
                generalize hA : mkAct _ _ g = A
                have h9 : A.tmps[9]?.getD undef = .pointer (some ⟨R, 0, none⟩) := by rw [← hA]; exact mkAct_out2 _ _ _ _ _ rfl rfl
                obtain ⟨d0, d1, d2, d3⟩ := (Blk4 (Blk.keep cm hJ.1 hRq))
                refine step_val (v := .agg #[.int .i64 l.idx, .int .i64 l.term, .int .i64 l.bytes, .slice sa l.sums.length sc]) (w' := w') ?_ ⟨rfl, Ext.refl _ _⟩
                simp [execOp, h9, d0, d1, d2, d3, Result.andThen, go_sem]
              case f4_20 =>
                intro f v g w' hJ hfi hb hd
                refine arm_u rfl ?_
                refine op_run rfl ?_
                have e89 : g 89 = .pointer (some ⟨q, 0, none⟩) := value_u (hd ⟨0, .data⟩ (by simp) rfl) rfl rfl
                generalize hA : mkAct _ _ g = A
                have h89 : A.tmps[89]?.getD undef = .pointer (some ⟨q, 0, none⟩) := by rw [← hA, mkAct_in2 _ _ _ _ rfl rfl]; exact e89
                refine step_val (v := .pointer (some ⟨q, 0, none⟩)) (w' := w') ?_ ⟨rfl, Ext.refl _ _⟩
                simp [execOp, h89, Result.andThen, go_sem]
              case f5_20 =>
                intro f v g w' hJ hfi hb hd
                refine arm_u rfl ?_
                refine op_run rfl ?_
                have e93 : g 93 = .pointer (some ⟨q, 0, none⟩) := value_u (hd ⟨4, .data⟩ (by simp) rfl) rfl rfl
                generalize hA : mkAct _ _ g = A
                have h93 : A.tmps[93]?.getD undef = .pointer (some ⟨q, 0, none⟩) := by rw [← hA, mkAct_in2 _ _ _ _ rfl rfl]; exact e93
                refine step_val (v := .pointer (some ⟨q, 2, none⟩)) (w' := w') ?_ ⟨rfl, Ext.refl _ _⟩
                simp [execOp, h93, Result.andThen, go_sem]
              case f6_20 =>
                intro f v g w' hJ hfi hb hd
                refine arms_u rfl ?_
                refine op_run rfl ?_
                have e94 : g 94 = .pointer (some ⟨q, 2, none⟩) := value_u (hd ⟨5, .data⟩ (by simp) rfl) rfl rfl
                have e91 : g 91 = .int .i64 aa := value_u (hd ⟨2, .data⟩ (by simp) rfl) rfl rfl
                generalize hA : mkAct _ _ g = A
                have h94 : A.tmps[94]?.getD undef = .pointer (some ⟨q, 2, none⟩) := by rw [← hA, mkAct_in2 _ _ _ _ rfl rfl]; exact e94
                have h91 : A.tmps[91]?.getD undef = .int .i64 aa := by rw [← hA, mkAct_in2 _ _ _ _ rfl rfl]; exact e91
                have hB0 := hJ.2.1 hfi
                have c0 : w'.cell? ⟨q, 2, none⟩ = some (.int .i64 s.area) := Blk.c hB0 2
                have cf := fun j => Blk.f hB0 j
                have cl := Blk.lt hB0
                have HX9 : Ext [q] w' (w'.setCell ⟨q, 2, none⟩ (.int .i64 aa)) := ((Ext.refl [q] w').setCell (p := ⟨q, 2, none⟩) (.inl (List.mem_singleton.2 rfl)) (.int .i64 aa))
                have HB9 := (Blk.set hB0 2 (.int .i64 aa))
                refine step_skip (w' := (w'.setCell ⟨q, 2, none⟩ (.int .i64 aa))) ?_ ⟨undef, rfl, hJ.1.trans HX9 (fun z hz => .inl hz), fun h => (by cases h), fun _ _ => HB9, fun h => (by have h' : f 9 = true := h; rw [not_yet hb (by kernel_rfl)] at h'; cases h')⟩
                simp [execOp, h94, h91, c0, cf, cl, Result.andThen, go_sem]
              case f7_20 =>
                intro f v g w' hJ hfi hb hd
                refine arm_u rfl ?_
                refine op_run rfl ?_
                have e90 : g 90 = .pointer (some ⟨q, 0, none⟩) := value_u (hd ⟨1, .data⟩ (by simp) rfl) rfl rfl
                generalize hA : mkAct _ _ g = A
                have h90 : A.tmps[90]?.getD undef = .pointer (some ⟨q, 0, none⟩) := by rw [← hA, mkAct_in2 _ _ _ _ rfl rfl]; exact e90
                refine step_val (v := .pointer (some ⟨q, 0, none⟩)) (w' := w') ?_ ⟨rfl, Ext.refl _ _⟩
                simp [execOp, h90, Result.andThen, go_sem]
              case f8_20 =>
                intro f v g w' hJ hfi hb hd
                refine arm_u rfl ?_
                refine op_run rfl ?_
                have e95 : g 95 = .pointer (some ⟨q, 0, none⟩) := value_u (hd ⟨7, .data⟩ (by simp) rfl) rfl rfl
                generalize hA : mkAct _ _ g = A
                have h95 : A.tmps[95]?.getD undef = .pointer (some ⟨q, 0, none⟩) := by rw [← hA, mkAct_in2 _ _ _ _ rfl rfl]; exact e95
                refine step_val (v := .pointer (some ⟨q, 3, none⟩)) (w' := w') ?_ ⟨rfl, Ext.refl _ _⟩
                simp [execOp, h95, Result.andThen, go_sem]
              case f9_20 =>
                intro f v g w' hJ hfi hb hd
                refine arms_u rfl ?_
                refine op_run rfl ?_
                have e96 : g 96 = .pointer (some ⟨q, 3, none⟩) := value_u (hd ⟨8, .data⟩ (by simp) rfl) rfl rfl
                have e92 : g 92 = .agg #[.int .i64 l.idx, .int .i64 l.term, .int .i64 l.bytes, .slice sa l.sums.length sc] := value_u (hd ⟨3, .data⟩ (by simp) rfl) rfl rfl
                generalize hA : mkAct _ _ g = A
                have h96 : A.tmps[96]?.getD undef = .pointer (some ⟨q, 3, none⟩) := by rw [← hA, mkAct_in2 _ _ _ _ rfl rfl]; exact e96
                have h92 : A.tmps[92]?.getD undef = .agg #[.int .i64 l.idx, .int .i64 l.term, .int .i64 l.bytes, .slice sa l.sums.length sc] := by rw [← hA, mkAct_in2 _ _ _ _ rfl rfl]; exact e92
                have hB0 := hJ.2.2.1 ((hd ⟨6, .chain⟩ (by simp) rfl).2 rfl).1 hfi
                have c0 : w'.cell? ⟨q, 3, none⟩ = some (.int .i64 s.list.idx) := Blk.c hB0 3
                have c1 : w'.cell? ⟨q, 4, none⟩ = some (.int .i64 s.list.term) := Blk.c hB0 4
                have c2 : w'.cell? ⟨q, 5, none⟩ = some (.int .i64 s.list.bytes) := Blk.c hB0 5
                have c3 : w'.cell? ⟨q, 6, none⟩ = some (sv) := Blk.c hB0 6
                have cf := fun j => Blk.f hB0 j
                have cl := Blk.lt hB0
                have HX9 : Ext [q] w' ((((w'.setCell ⟨q, 3, none⟩ (.int .i64 l.idx)).setCell ⟨q, 4, none⟩ (.int .i64 l.term)).setCell ⟨q, 5, none⟩ (.int .i64 l.bytes)).setCell ⟨q, 6, none⟩ (.slice sa l.sums.length sc)) := (((((Ext.refl [q] w').setCell (p := ⟨q, 3, none⟩) (.inl (List.mem_singleton.2 rfl)) (.int .i64 l.idx)).setCell (p := ⟨q, 4, none⟩) (.inl (List.mem_singleton.2 rfl)) (.int .i64 l.term)).setCell (p := ⟨q, 5, none⟩) (.inl (List.mem_singleton.2 rfl)) (.int .i64 l.bytes)).setCell (p := ⟨q, 6, none⟩) (.inl (List.mem_singleton.2 rfl)) (.slice sa l.sums.length sc))
                have HB9 := (Blk.set (Blk.set (Blk.set (Blk.set hB0 3 (.int .i64 l.idx)) 4 (.int .i64 l.term)) 5 (.int .i64 l.bytes)) 6 (.slice sa l.sums.length sc))
                refine step_skip (w' := ((((w'.setCell ⟨q, 3, none⟩ (.int .i64 l.idx)).setCell ⟨q, 4, none⟩ (.int .i64 l.term)).setCell ⟨q, 5, none⟩ (.int .i64 l.bytes)).setCell ⟨q, 6, none⟩ (.slice sa l.sums.length sc))) ?_ ⟨undef, rfl, hJ.1.trans HX9 (fun z hz => .inl hz), fun h => (by have h' : f 6 = false := h; rw [((hd ⟨6, .chain⟩ (by simp) rfl).2 rfl).1] at h'; cases h'), fun _ h => (by cases h), fun _ => HB9⟩
                simp [execOp, h96, h92, c0, c1, c2, c3, cf, cl, Result.andThen, go_sem]
            intro f v g wn hJ hk
            have hfs6 : f 6 = true := ((hk 6 (by decide)).2 rfl).1
            have hfs9 : f 9 = true := ((hk 9 (by decide)).2 rfl).1
            obtain ⟨hx9, -, -, j3⟩ := hJ
            have hbn := j3 hfs9
            have HBn := Hid.of hbn
            have HX9 := Hid.of hx9
            clear hk j3 hbn hx9 cm
            unfold mkAct; simp only [List.zipIdx_cons, List.zipIdx_nil, List.map_cons, List.map_nil, Nat.zero_add, Nat.reduceAdd, List.contains_cons, List.contains_nil, Nat.reduceBEq, Bool.or_false, Bool.or_true, ↓reduceIte, Bool.false_eq_true]
            go_wp2
            go_ret
            have hqs : q ∉ vblocks (.slice sa l.sums.length sc) := fun hm => by have := (HVS.out q hm).1; have := Blk.lt H.out.blk; omega
            have hss : Sums w6 (.slice sa l.sums.length sc) l.sums := HK6.out.rd HSl4.out HPs.out
            have hkk : Kept O w wn := ((Kept.of HXw4.out).trans (HK6.out.sub HPO.out)).trans (fun z hz o ho => HX9.out.heap (by simp; intro h; subst h; exact H.out.no hz) ho)
            refine PutTo.mk (sv' := .slice sa l.sums.length sc) (by rw [HX.out, HPE5.out]; rfl) ⟨?_, ?_, ?_, HSok.out l HR1.out, H.out.newq, hqs, H.out.no, fun z hz hm => (by have := (HVS.out z hz).1; have := H.out.lt z hm; omega)⟩ hkk
            · unfold StB putS
              rw [← HAp.out]
              exact HBn.out
            · exact hss.keep HX9.out (fun z hz hm => hqs (by simp at hm; exact hm ▸ hz))
            · refine (HD6.out.other HX9.out HPq.out.1 H.out.newq).sub (fun z hz => ?_)
              simp only [List.mem_cons, List.mem_append] at hz
              rcases hz with h | h | h
              · exact h ▸ HPq.out.1
              · exact HPs.out z h
              · exact HPO.out z h
          · go_wp2_with ((go_at_call 41; (with_reducible refine cc5.mono ?_); rintro e w6 ⟨rfl, hd6, hk6⟩; have HD6 := Hid.of hd6; have HK6 := Hid.of (HK5.out.trans hk6); clear hd6 hk6 cc5 r0 r1 r2 r3))
            go_ret
            obtain ⟨hs9, hk9⟩ := H.out.devt (HD6.out.sub (HPall.out)) ((Kept.of HXw4.out).trans (HK6.out.sub HPall.out))
            exact PutTo.mk (by rw [HX.out, HPE5.out]; simp [h3]) hs9 hk9
        · have HN : Hid (PR = (E2, D5)) := Hid.of (by rw [HPE2.out, HW.out]; exact if_neg h0)
          go_wp2_with ((go_at_call 40; (with_reducible refine cf.mono ?_); rintro e w5 ⟨rfl, hd5, hk5⟩; have HD5 := Hid.of hd5; have HK5 := Hid.of (hK1.out.trans hk5); clear hd5 hk5 cf cbx))
          go_ret
          obtain ⟨hs9, hk9⟩ := H.out.devt (HD5.out.sub (HPall.out)) ((Kept.of HXw4.out).trans (HK5.out.sub HPall.out))
          exact PutTo.mk (by rw [HX.out, HN.out]; simp [h0]) hs9 hk9
theorem StM.put7 (h : StM w0 w q b sv D s n O) (i t : Int) (d : List UInt8) (hd : d.length ≤ 1000000) (hlen : D.since.length ≤ 900000) :
    Calls Try.prog 14 #[.pointer (some ⟨q, 0, none⟩), .int .i64 i, .int .i64 t, str d] w (PutTo w0 w q b (putX s i t d D) n O) := by
  by_cases hk : putOk s (ofL i t d)
  · by_cases hc : s.area < 0
    · exact put_goA h hc i t d hd hk hlen
    · exact put_goB h (by omega) i t d hd hk hlen
  · refine (put_bad h i t d (by omega) hk).mono ?_
    rintro e w' ⟨rfl, hx⟩
    exact PutTo.mk (by unfold putX; rw [if_neg hk]) (h.keep hx) (Kept.of hx)
end
end Go.Proofs.Ytlnfigbcdmfmdaa
