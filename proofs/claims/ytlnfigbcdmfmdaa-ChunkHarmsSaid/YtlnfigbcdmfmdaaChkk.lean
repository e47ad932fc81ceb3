/- Package chunk: copies. (Printed by wip/gen_copies7.py.) -/
import Derived.Test.YtlnfigbcdmfmdaaChki
namespace Go.Proofs.Ytlnfigbcdmfmdaa
open Go.RowKit
set_option linter.unusedVariables false
set_option linter.unusedSimpArgs false

theorem wf_of_put {r : Rc} (h : putE r = 0) : r.wf := by
  obtain ⟨⟨h1, h2, h3, h4, h5, h6⟩, h7⟩ := putE_ok h
  exact ⟨by omega, by omega, by omega, by unfold maxLen; omega⟩
theorem wrf_one (k : Int) (r : Rc) (D : Dv) : wrf [(k, r)] D = if swE k r D = 0 then (turnE (swD k r D), flushD (swD k r D)) else (swE k r D, swD k r D) := by
  unfold wrf wrs
  by_cases h : swE k r D = 0
  · simp [h, wrs]
  · simp [h]
/-- The two copies of a list. -/
def copR (s : Sto) (a : Int) (l : Ls) (p : Int) : Int × Rc := (s.b a p, recL l)
def copsD (s : Sto) (a : Int) (l : Ls) (D : Dv) : Int × Dv := runs [[copR s a l 0], [copR s a l 1]] D
theorem copsD_eq (s : Sto) (a : Int) (l : Ls) (D : Dv) : copsD s a l D = if (wrf [copR s a l 0] D).1 = 0 then wrf [copR s a l 1] (wrf [copR s a l 0] D).2 else wrf [copR s a l 0] D := by
  unfold copsD
  rw [runs, runs_one]
theorem wrf_one_since (k : Int) (r : Rc) (D : Dv) : (wrf [(k, r)] D).2.since.length ≤ D.since.length + 1 := wrf_since [(k, r)] D
section
variable {w0 w : World} {q b : Nat} {sv : Value} {D : Dv} {s : Sto} {n : Int}
set_option maxRecDepth 100000 in
set_option maxHeartbeats 12800000 in
theorem copies_o {P : List Nat} (l : Ls) (sl : Value) (a : Int) (hB : StB w q b sv s) (hd : DevO w0 w b D P) (hq : q ∈ P) (hs : Sums w sl l.sums) (hv : ∀ z ∈ vblocks sl, z ∈ P)
    (ha : a = 0 ∨ a = 1) (hr : l.right) (hb : 0 ≤ s.base ∧ s.base ≤ 4096) (hlen : D.since.length + 2 ≤ 1000000) :
    Calls Try.prog 41 #[.pointer (some ⟨q, 0, none⟩), .int .i64 a, lsv l sl] w fun e w' => e = .returned (.int .i64 (copsD s a l D).1) ∧ DevO w0 w' b (copsD s a l D).2 P ∧ Kept P w w' := by
  have hpr := recL_put hr
  have HW := Hid.of (wf_of_put hpr)
  have HC := Hid.of (copsD_eq s a l D)
  have HQ := Hid.of hq
  have HV := Hid.of hv
  have HL := Hid.of hlen
  have hl64 : l.sums.length ≤ 64 := hr.2.2.2.2.2.1
  have HL64 := Hid.of hl64
  have hblk := fun w' (hk : StB w' q b sv s) (p : Int) (hp : 0 ≤ p ∧ p ≤ 1) => block_o hk hb a p (by omega) (by omega)
  obtain ⟨ga, cap, rfl⟩ := Rd.isSlice hs
  have HS1 := Hid.of (wrf_one_since (s.b a 0) (recL l) D)
  obtain ⟨C, hC⟩ : ∃ x, x = copsD s a l D := ⟨_, rfl⟩
  rw [← hC] at HC ⊢
  clear hC
  have HB := Hid.of hB
  have HD := Hid.of hd
  have HSu := Hid.of hs
  have HBL := Hid.of hblk
  obtain ⟨Z, hZ⟩ : ∃ Z, Z = w.heap.size := ⟨_, rfl⟩
  obtain ⟨W, hW⟩ : ∃ W, W = w.alloc (.cells #[.int .i64 l.idx, .int .i64 l.term, .int .i64 l.bytes, .slice ga l.sums.length cap] 42) := ⟨_, rfl⟩
  have HZ : Hid (Blk W Z 42 [.int .i64 l.idx, .int .i64 l.term, .int .i64 l.bytes, .slice ga l.sums.length cap]) := Hid.of (by rw [hW]; exact Blk.newg hZ.symm)
  have hxW : Ext [] w W := by rw [hW]; exact (Ext.refl _ _).alloc _
  have HM : Hid (DevO w0 W b D (Z :: P)) := Hid.of (hd.add hxW Z (by omega) (Blk.lt HZ.out))
  have HK : Hid (Kept P w W) := Hid.of (Kept.of hxW)
  have HBW : Hid (StB W q b sv s) := Hid.of (Blk.keep hB hxW (by simp))
  have HSW : Hid (Sums W (.slice ga l.sums.length cap) l.sums) := Hid.of (hs.keep0 hxW)
  clear hpr hq hv hlen hl64 hB hd hs hr hb hblk HB HD HSu
  unfold lsv
  go_enter Try.func41, Try.ntmps41
  go_upto_region 2 with fail
  rw [← hZ, ← hW]
  clear hZ hW hxW
  go_loopw [10] (fun u10 wr => ∃ (p : Nat) (D1 : Dv), u10 = .int .i64 (p : Int) ∧ p ≤ 2 ∧ Hid ((p = 0 → D1 = D) ∧ (p = 1 → (wrf [copR s a l 0] D).1 = 0 ∧ D1 = (wrf [copR s a l 0] D).2) ∧ (p = 2 → C.1 = 0 ∧ D1 = C.2)) ∧ Hid (DevO w0 wr b D1 (Z :: P)) ∧ Hid (Kept (Z :: P) W wr)) (fun u10 _ => 2 - (intOf u10).toNat)
  case atStart => exact ⟨0, D, rfl, by omega, ⟨fun _ => rfl, by omega, by omega⟩, HM, Kept.refl _ _⟩
  case round =>
    obtain ⟨p, D1, rfl, hp, hD1, hM1, hK1⟩ := hrel
    by_cases hp2 : p = 2
    · subst hp2
      have HD2 := Hid.of (hD1.out.2.2 rfl)
      clear hD1
      go_wp2
      go_ret
      obtain ⟨e1, e2⟩ := HD2.out
      rw [e1, ← e2]
      exact ⟨rfl, hM1.out.sub (fun y hy => by simp [hy]), HK.out.trans (hK1.out.sub (fun y hy => by simp [hy]))⟩
    · have hlt2 : p < 2 := by omega
      have hp2' : (p : Int) < 2 := by omega
      have HSin : Hid (D1.since.length + 1 ≤ 1000000) := Hid.of (by
        have := HL.out
        rcases (by omega : p = 0 ∨ p = 1) with e | e
        · rw [hD1.out.1 e]; omega
        · rw [(hD1.out.2.1 e).2, show copR s a l 0 = (s.b a 0, recL l) from rfl]; have := HS1.out; omega)
      have HPP : Hid (((wrf [(s.b a p, recL l)] D1).1 ≠ 0 → C = wrf [(s.b a p, recL l)] D1) ∧ ((wrf [(s.b a p, recL l)] D1).1 = 0 → (p = 0 → (wrf [copR s a l 0] D).1 = 0 ∧ (wrf [(s.b a p, recL l)] D1).2 = (wrf [copR s a l 0] D).2) ∧ (p = 1 → C.1 = 0 ∧ (wrf [(s.b a p, recL l)] D1).2 = C.2))) := Hid.of (by
        rw [show (s.b a p, recL l) = copR s a l p from rfl]
        rcases (by omega : p = 0 ∨ p = 1) with e | e
        · subst e
          rw [hD1.out.1 rfl]
          exact ⟨fun h => by rw [HC.out, if_neg (show ¬ (wrf [copR s a l 0] D).1 = 0 from h)]; rfl, fun h => ⟨fun _ => ⟨h, rfl⟩, by omega⟩⟩
        · subst e
          obtain ⟨e1, e2⟩ := hD1.out.2.1 rfl
          rw [e2]
          have hCC : C = wrf [copR s a l ((1 : Nat) : Int)] (wrf [copR s a l 0] D).2 := by rw [HC.out, if_pos e1]; rfl
          rw [← hCC]
          exact ⟨fun h => rfl, fun h => ⟨by omega, fun _ => ⟨h, rfl⟩⟩⟩)
      have HO1 := Hid.of (wrf_one (s.b a p) (recL l) D1)
      have cq := fun w' (hx : Ext [] wr w') => StB.cells (Blk.keep (hK1.out.blk HBW.out (by simp [HQ.out])) hx (by simp) : StB w' q b sv s)
      have cz := fun w' (hx : Kept (Z :: P) wr w') => Blk4 (hx.blk (hK1.out.blk HZ.out (by simp)) (by simp))
      have cb := fun w' (hx : Ext [] wr w') => HBL.out w' (Blk.keep (hK1.out.blk HBW.out (by simp [HQ.out])) hx (by simp)) p (by omega)
      have cr := fun w' (hx : Ext [] wr w') => recl_any l (.slice ga l.sums.length cap) w' (Sums.keep0 (hK1.out.rd HSW.out (fun z hz => List.mem_cons_of_mem _ (HV.out z hz))) hx) HL64.out
      unfold lsv at cr
      have cw := fun w' (hx : Ext [] wr w') => swrite_o b D1 (s.b a p) (recL l) w0 w' (Z :: P) (hM1.out.keep hx) (by have := HSin.out; omega) HW.out
      obtain ⟨PP, hPP⟩ : ∃ x, x = wrf [(s.b a p, recL l)] D1 := ⟨_, rfl⟩
      rw [← hPP] at HPP HO1
      have HS2 := Hid.of (swD_since (s.b a p) (recL l) D1)
      generalize hE1 : swE (s.b a p) (recL l) D1 = E1 at cw HO1
      generalize hD1x : swD (s.b a p) (recL l) D1 = D2 at cw HO1 HS2
      clear hE1 hD1x
      generalize s.b a p = B at cb cw
      generalize (recL l).val = rv at cr cw
      generalize hi : l.idx = li at cz cr
      generalize ht : l.term = lt at cz cr
      generalize hby : l.bytes = lb at cz cr
      clear hPP hi ht hby HM
      go_upto_region 4 with fail
      refine wp_region_u [13, 14, 15, 16, 17, 18, 19, 20, 21, 22, 23, 8] [10] (fun n => match n with | 0 => .pointer (some ⟨q, 0, none⟩) | 1 => .pointer (some ⟨q, 0, none⟩) | 2 => .pointer (some ⟨q, 0, none⟩) | 3 => .pointer (some ⟨b, 0, none⟩) | 4 => .pointer (some ⟨q, 0, none⟩) | 5 => .int .i64 a | 6 => .int .i64 (p : Int) | 7 => .int .i64 B | 8 => .agg #[.int .i64 li, .int .i64 lt, .int .i64 lb, .slice ga l.sums.length cap] | 9 => rv | 11 => .int .i64 E1 | _ => undef) (fun f v wx => (f 10 = false → Ext [] wr wx) ∧ (f 10 = true → v 10 = .int .i64 E1 ∧ DevO w0 wx b D2 (Z :: P) ∧ Kept (Z :: P) wr wx) ∧ Kept (Z :: P) wr wx) (by kernel_rfl) (by kernel_rfl) ?hst0_4 ?h00_4 ?hst_4 ?hend_4
      case hst0_4 =>
        rintro f v w w' ⟨j1, j2, j3⟩ hx2
        exact ⟨fun h => (j1 h).then0 hx2, fun h => ⟨(j2 h).1, (j2 h).2.1.keep hx2, (j2 h).2.2.trans (Kept.of hx2)⟩, j3.trans (Kept.of hx2)⟩
      case h00_4 =>
        exact ⟨fun _ => Ext.refl _ _, fun h => (by cases h), Kept.refl _ _⟩
      case hst_4 =>
        refine ⟨?f0_4, ?f1_4, ?f2_4, ?f3_4, ?f4_4, ?f5_4, ?f6_4, ?f7_4, ?f8_4, ?f9_4, ?f10_4, ?f11_4, trivial⟩
        case f0_4 =>
          intro f v g w' hJ hfi hb hd
          refine arm_u rfl ?_
          refine op_run rfl ?_
          generalize hA : mkAct _ _ g = A
          have h0 : A.tmps[0]?.getD undef = .pointer (some ⟨q, 0, none⟩) := by rw [← hA]; exact mkAct_out2 _ _ _ _ _ rfl rfl
          refine step_val (v := .pointer (some ⟨q, 0, none⟩)) (w' := w') ?_ ⟨rfl, Ext.refl _ _⟩
          simp [execOp, h0, Result.andThen, go_sem]
        case f1_4 =>
          intro f v g w' hJ hfi hb hd
          refine arm_u rfl ?_
          refine op_run rfl ?_
          have e13 : g 13 = .pointer (some ⟨q, 0, none⟩) := value_u (hd ⟨0, .data⟩ (by simp) rfl) rfl rfl
          generalize hA : mkAct _ _ g = A
          have h13 : A.tmps[13]?.getD undef = .pointer (some ⟨q, 0, none⟩) := by rw [← hA, mkAct_in2 _ _ _ _ rfl rfl]; exact e13
          refine step_val (v := .pointer (some ⟨q, 0, none⟩)) (w' := w') ?_ ⟨rfl, Ext.refl _ _⟩
          simp [execOp, h13, Result.andThen, go_sem]
        case f2_4 =>
          intro f v g w' hJ hfi hb hd
          refine arm_u rfl ?_
          refine op_run rfl ?_
          have e14 : g 14 = .pointer (some ⟨q, 0, none⟩) := value_u (hd ⟨1, .data⟩ (by simp) rfl) rfl rfl
          generalize hA : mkAct _ _ g = A
          have h14 : A.tmps[14]?.getD undef = .pointer (some ⟨q, 0, none⟩) := by rw [← hA, mkAct_in2 _ _ _ _ rfl rfl]; exact e14
          refine step_val (v := .pointer (some ⟨q, 0, none⟩)) (w' := w') ?_ ⟨rfl, Ext.refl _ _⟩
          simp [execOp, h14, Result.andThen, go_sem]
        case f3_4 =>
          intro f v g w' hJ hfi hb hd
          refine arm_u rfl ?_
          refine op_run rfl ?_
          have e15 : g 15 = .pointer (some ⟨q, 0, none⟩) := value_u (hd ⟨2, .data⟩ (by simp) rfl) rfl rfl
          generalize hA : mkAct _ _ g = A
          have h15 : A.tmps[15]?.getD undef = .pointer (some ⟨q, 0, none⟩) := by rw [← hA, mkAct_in2 _ _ _ _ rfl rfl]; exact e15
          have c := (cq w' (hJ.1 (not_yet hb (by kernel_rfl)))).1
          refine step_val (v := .pointer (some ⟨b, 0, none⟩)) (w' := w') ?_ ⟨rfl, Ext.refl _ _⟩
          simp [execOp, h15, c, Result.andThen, go_sem]
        case f4_4 =>
          intro f v g w' hJ hfi hb hd
          refine arm_u rfl ?_
          refine op_run rfl ?_
          generalize hA : mkAct _ _ g = A
          have h0 : A.tmps[0]?.getD undef = .pointer (some ⟨q, 0, none⟩) := by rw [← hA]; exact mkAct_out2 _ _ _ _ _ rfl rfl
          refine step_val (v := .pointer (some ⟨q, 0, none⟩)) (w' := w') ?_ ⟨rfl, Ext.refl _ _⟩
          simp [execOp, h0, Result.andThen, go_sem]
        case f5_4 =>
          intro f v g w' hJ hfi hb hd
          refine arm_u rfl ?_
          refine op_run rfl ?_
          generalize hA : mkAct _ _ g = A
          have h1 : A.tmps[1]?.getD undef = .int .i64 a := by rw [← hA]; exact mkAct_out2 _ _ _ _ _ rfl rfl
          refine step_val (v := .int .i64 a) (w' := w') ?_ ⟨rfl, Ext.refl _ _⟩
          simp [execOp, h1, Result.andThen, go_sem]
        case f6_4 =>
          intro f v g w' hJ hfi hb hd
          refine arm_u rfl ?_
          refine op_run rfl ?_
          generalize hA : mkAct _ _ g = A
          have h7 : A.tmps[7]?.getD undef = .int .i64 (p : Int) := by rw [← hA]; exact mkAct_out2 _ _ _ _ _ rfl rfl
          refine step_val (v := .int .i64 (p : Int)) (w' := w') ?_ ⟨rfl, Ext.refl _ _⟩
          simp [execOp, h7, Result.andThen, go_sem]
        case f7_4 =>
          intro f v g w' hJ hfi hb hd
          refine arm_u rfl ?_
          refine op_run rfl ?_
          have e17 : g 17 = .pointer (some ⟨q, 0, none⟩) := value_u (hd ⟨4, .data⟩ (by simp) rfl) rfl rfl
          have e18 : g 18 = .int .i64 a := value_u (hd ⟨5, .data⟩ (by simp) rfl) rfl rfl
          have e19 : g 19 = .int .i64 (p : Int) := value_u (hd ⟨6, .data⟩ (by simp) rfl) rfl rfl
          generalize hA : mkAct _ _ g = A
          have h17 : A.tmps[17]?.getD undef = .pointer (some ⟨q, 0, none⟩) := by rw [← hA, mkAct_in2 _ _ _ _ rfl rfl]; exact e17
          have h18 : A.tmps[18]?.getD undef = .int .i64 a := by rw [← hA, mkAct_in2 _ _ _ _ rfl rfl]; exact e18
          have h19 : A.tmps[19]?.getD undef = .int .i64 (p : Int) := by rw [← hA, mkAct_in2 _ _ _ _ rfl rfl]; exact e19
          refine float_u (fun K hK => ?_)
          go_simp
          refine (cb w' (hJ.1 (not_yet hb (by kernel_rfl)))).mono ?_
          rintro e w2 ⟨rfl, hx2⟩
          exact hK w2 hx2
        case f8_4 =>
          intro f v g w' hJ hfi hb hd
          refine arm_u rfl ?_
          refine op_run rfl ?_
          generalize hA : mkAct _ _ g = A
          have h5 : A.tmps[5]?.getD undef = .pointer (some ⟨Z, 0, none⟩) := by rw [← hA]; exact mkAct_out2 _ _ _ _ _ rfl rfl
          obtain ⟨d0, d1, d2, d3⟩ := (cz w' hJ.2.2)
          refine step_val (v := .agg #[.int .i64 li, .int .i64 lt, .int .i64 lb, .slice ga l.sums.length cap]) (w' := w') ?_ ⟨rfl, Ext.refl _ _⟩
          simp [execOp, h5, d0, d1, d2, d3, Result.andThen, go_sem]
        case f9_4 =>
          intro f v g w' hJ hfi hb hd
          refine arm_u rfl ?_
          refine op_run rfl ?_
          have e21 : g 21 = .agg #[.int .i64 li, .int .i64 lt, .int .i64 lb, .slice ga l.sums.length cap] := value_u (hd ⟨8, .data⟩ (by simp) rfl) rfl rfl
          generalize hA : mkAct _ _ g = A
          have h21 : A.tmps[21]?.getD undef = .agg #[.int .i64 li, .int .i64 lt, .int .i64 lb, .slice ga l.sums.length cap] := by rw [← hA, mkAct_in2 _ _ _ _ rfl rfl]; exact e21
          refine float_u (fun K hK => ?_)
          go_simp
          refine (cr w' (hJ.1 (not_yet hb (by kernel_rfl)))).mono ?_
          rintro e w2 ⟨rfl, hx2⟩
          exact hK w2 hx2
        case f10_4 =>
          intro f v g w' hJ hfi hb hd
          refine arms_u rfl ?_
          refine op_run rfl ?_
          have e16 : g 16 = .pointer (some ⟨b, 0, none⟩) := value_u (hd ⟨3, .data⟩ (by simp) rfl) rfl rfl
          have e20 : g 20 = .int .i64 B := value_u (hd ⟨7, .data⟩ (by simp) rfl) rfl rfl
          have e22 : g 22 = rv := value_u (hd ⟨9, .data⟩ (by simp) rfl) rfl rfl
          generalize hA : mkAct _ _ g = A
          have h16 : A.tmps[16]?.getD undef = .pointer (some ⟨b, 0, none⟩) := by rw [← hA, mkAct_in2 _ _ _ _ rfl rfl]; exact e16
          have h20 : A.tmps[20]?.getD undef = .int .i64 B := by rw [← hA, mkAct_in2 _ _ _ _ rfl rfl]; exact e20
          have h22 : A.tmps[22]?.getD undef = rv := by rw [← hA, mkAct_in2 _ _ _ _ rfl rfl]; exact e22
          refine mid_u (fun K hK => ?_)
          go_simp
          refine (cw w' (hJ.1 hfi)).mono ?_
          rintro e w2 ⟨rfl, hd2, hk2⟩
          exact hK (.int .i64 E1) w2 ⟨fun h => (by cases h), fun _ => ⟨setU_same _ _ _, hd2, (Kept.of (hJ.1 hfi)).trans hk2⟩, hJ.2.2.trans hk2⟩
        case f11_4 =>
          intro f v g w' hJ hfi hb hd
          refine arm_u rfl ?_
          refine op_run rfl ?_
          obtain ⟨hf23, e23⟩ := special_u (hd ⟨10, .data⟩ (by simp) rfl) rfl rfl
          replace e23 : g 23 = v 10 := e23
          have e10x := (hJ.2.1 hf23).1
          rw [e10x] at e23
          generalize hA : mkAct _ _ g = A
          have h23 : A.tmps[23]?.getD undef = .int .i64 E1 := by rw [← hA, mkAct_in2 _ _ _ _ rfl rfl]; exact e23
          refine step_val (v := .int .i64 E1) (w' := w') ?_ ⟨rfl, Ext.refl _ _⟩
          simp [execOp, h23, Result.andThen, go_sem]
      intro f v g wn hJ hk
      have e8 : g 8 = .int .i64 E1 := value_u (hk 11 (by decide)) rfl rfl
      obtain ⟨-, j2, -⟩ := hJ
      obtain ⟨-, hd2, hk2⟩ := j2 ((hk 10 (by decide)).2 rfl).1
      have HD2 := Hid.of hd2
      have HK2 := Hid.of (hK1.out.trans hk2)
      have cqn := (StB.cells (HK2.out.blk HBW.out (by simp [HQ.out]) : StB wn q b sv s)).1
      clear cq cz cb cr cw j2 hk hd2 hk2
      unfold mkAct; simp only [List.zipIdx_cons, List.zipIdx_nil, List.map_cons, List.map_nil, Nat.zero_add, Nat.reduceAdd, List.contains_cons, List.contains_nil, Nat.reduceBEq, Bool.or_false, Bool.or_true, ↓reduceIte, Bool.false_eq_true]
      rw [e8]
      clear e8
      by_cases h0 : E1 = 0
      · have HO2 := Hid.of (HO1.out.trans (if_pos h0))
        subst h0
        have cf := flush_o b D2 w0 wn (Z :: P) HD2.out
        generalize turnE D2 = E2 at cf HO2
        clear HO1
        by_cases h2 : E2 = 0
        · have HN := Hid.of (HPP.out.2 (by rw [HO2.out]; exact h2))
          subst h2
          go_wp2_with ((go_at_call 40; (with_reducible refine cf.mono ?_); rintro e w4 ⟨rfl, hd4, hk4⟩; have H4 := Hid.of hd4; have K4 := Hid.of (HK2.out.trans hk4); clear hd4 hk4 cf cqn))
          go_roundw
          case rel =>
            refine ⟨p + 1, PP.2, by congr 1, by omega, ⟨by omega, fun h => HN.out.1 (by omega), fun h => HN.out.2 (by omega)⟩, ?_, K4.out⟩
            rw [HO2.out]
            exact H4.out
          case measure => simp [intOf]; omega
        · have HN := Hid.of (HPP.out.1 (by rw [HO2.out]; exact h2))
          go_wp2_with ((go_at_call 40; (with_reducible refine cf.mono ?_); rintro e w4 ⟨rfl, hd4, hk4⟩; have H4 := Hid.of hd4; have K4 := Hid.of (HK2.out.trans hk4); clear hd4 hk4 cf cqn))
          go_ret
          rw [HN.out, HO2.out]
          exact ⟨rfl, H4.out.sub (fun y hy => by simp [hy]), HK.out.trans (K4.out.sub (fun y hy => by simp [hy]))⟩
      · have HO2 := Hid.of (HO1.out.trans (if_neg h0))
        have HN := Hid.of (HPP.out.1 (by rw [HO2.out]; exact h0))
        clear cqn
        go_wp2
        go_ret
        rw [HN.out, HO2.out]
        exact ⟨rfl, HD2.out.sub (fun y hy => by simp [hy]), HK.out.trans (HK2.out.sub (fun y hy => by simp [hy]))⟩
end
end Go.Proofs.Ytlnfigbcdmfmdaa
