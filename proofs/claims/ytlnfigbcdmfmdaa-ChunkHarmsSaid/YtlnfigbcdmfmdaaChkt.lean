/- Package chunk: Scrub. (Printed by wip/gen_scrub7.py.) -/
import Derived.Test.YtlnfigbcdmfmdaaChks
namespace Go.Proofs.Ytlnfigbcdmfmdaa
open Go.RowKit
set_option linter.unusedVariables false
set_option linter.unusedSimpArgs false

instance (x : Sl) (l : Ls) : Decidable (x.lst l) := inferInstanceAs (Decidable (_ ∧ _))
/-- Scrub: both copies are there, or they are written again. -/
def scrubX (s : Sto) (V : Int → Sl) (D : Dv) : Int × Dv :=
  if s.area < 0 then (0, D) else if (V (s.b s.area 0)).lst s.list ∧ (V (s.b s.area 1)).lst s.list then (0, D) else copsD s s.area s.list D
theorem scrub_nil (w : World) : Calls Try.prog 32 #[.pointer none] w fun e w' => e = .returned (.int .i64 1) ∧ Ext [] w w' := by
  go_enter Try.func32, Try.ntmps32
  go_wp2
  go_ret
  exact ⟨rfl, Ext.refl _ _⟩
section
variable {w0 w : World} {q b : Nat} {sv : Value} {D : Dv} {s : Sto} {n0 : Int} {O : List Nat} {V : Int → Sl}
set_option maxRecDepth 100000 in
set_option maxHeartbeats 12800000 in
theorem scrub_go (h : StM w0 w q b sv D s n0 O) (hf : Fine D n0 V 0) (har : ¬ s.area < 0) :
    Calls Try.prog 32 #[.pointer (some ⟨q, 0, none⟩)] w fun e w' => e = .returned (.int .i64 (scrubX s V D).1) ∧ StM w0 w' q b sv (scrubX s V D).2 s n0 O ∧ Kept O w w' := by
  have HX : Hid (scrubX s V D = if (V (s.b s.area 0)).lst s.list ∧ (V (s.b s.area 1)).lst s.list then (0, D) else copsD s s.area s.list D) := Hid.of (if_neg har)
  obtain ⟨sa, sc, rfl⟩ := Rd.isSlice h.sums
  have HRt := Hid.of (h.ok.has (by omega))
  have HLn := Hid.of (show D.since.length + 2 ≤ 1000000 by have := hf.since; omega)
  have H := Hid.of h
  have HF := Hid.of hf
  have hok := h.ok
  have hb1 := hok.base
  have hb2 := hok.fit
  have hb3 := hok.big
  have ha1 : 0 ≤ s.area ∧ s.area ≤ 1 := by have := hok.area; omega
  have c2 := h.blk.cells.2.2.1
  have e2 : decide (s.area < 0) = false := decide_eq_false har
  obtain ⟨X, hX⟩ : ∃ x, x = scrubX s V D := ⟨_, rfl⟩
  rw [← hX] at HX ⊢
  clear h hf hok hX
  go_enter Try.func32, Try.ntmps32
  go_upto_region 6 with fail
  go_loopw [16] (fun u16 wr => ∃ p : Nat, u16 = .int .i64 (p : Int) ∧ p ≤ 2 ∧ Hid (∀ j : Nat, j < p → (V (s.b s.area j)).lst s.list) ∧ Hid (Ext [] w wr)) (fun u16 _ => 2 - (intOf u16).toNat)
  case atStart => exact ⟨0, rfl, by omega, fun j hj => by omega, Ext.refl _ _⟩
  case round =>
    obtain ⟨p, rfl, hp, hLs, hX⟩ := hrel
    by_cases hp2 : p = 2
    · subst hp2
      have HN : Hid (X = (0, D)) := Hid.of (by rw [HX.out]; exact if_pos ⟨hLs.out 0 (by omega), hLs.out 1 (by omega)⟩)
      clear hLs c2
      go_wp2
      go_ret
      rw [HN.out]
      exact ⟨rfl, H.out.keep hX.out, Kept.of hX.out⟩
    · have hlt : (p : Int) < 2 := by omega
      have hS := H.out.keep hX.out
      have cb := fun w' (hx : Ext [] wr w') => block_o (Blk.keep hS.blk hx (by simp) : StB w' q b _ s) ⟨hb1, by omega⟩ s.area (p : Int) ha1 ⟨by omega, by omega⟩
      have hBr : 0 ≤ s.b s.area (p : Int) ∧ s.b s.area (p : Int) < n0 := by unfold Sto.b; omega
      have cr := fun w' (hx : Ext [] wr w') => sread_v (hS.dev.keep hx) HF.out (s.b s.area (p : Int)) hBr.1 hBr.2
      have cq := fun w' (hx : Ext [] wr w') => StB.cells (Blk.keep hS.blk hx (by simp) : StB w' q b _ s)
      have hdl := HF.out.dlen (k := s.b s.area (p : Int)) hBr.1 hBr.2
      obtain ⟨y, hy⟩ : ∃ y, V (s.b s.area (p : Int)) = y := ⟨_, rfl⟩
      have HV := Hid.of hy
      rw [hy] at cr hdl
      clear hy
      obtain ⟨st, rk, ri, rt, rd⟩ := y
      simp only [Rc.val] at cr hdl
      generalize s.b s.area (p : Int) = Bl at cb cr
      clear hBr hS c2
      go_upto_region 8 with fail
      refine wp_region_u [20, 21, 22, 23, 24, 25, 26, 27, 28, 29, 30, 31, 19, 32, 33, 34, 4, 5, 6] [16, 17] (fun n => match n with | 0 => .pointer (some ⟨q, 0, none⟩) | 1 => .pointer (some ⟨q, 0, none⟩) | 2 => .pointer (some ⟨q, 0, none⟩) | 3 => .pointer (some ⟨b, 0, none⟩) | 4 => .pointer (some ⟨q, 0, none⟩) | 5 => .pointer (some ⟨q, 0, none⟩) | 6 => .pointer (some ⟨q, 0, none⟩) | 7 => .pointer (some ⟨q, 2, none⟩) | 8 => .int .i64 s.area | 9 => .int .i64 (p : Int) | 10 => .int .i64 Bl | 11 => .tuple #[.agg #[.int .i64 rk, .int .i64 ri, .int .i64 rt, .string ⟨rd.toArray⟩], .int .i64 st, .int .i64 0] | 12 => .tuple #[.agg #[.int .i64 rk, .int .i64 ri, .int .i64 rt, .string ⟨rd.toArray⟩], .int .i64 st, .int .i64 0] | 13 => .agg #[.int .i64 rk, .int .i64 ri, .int .i64 rt, .string ⟨rd.toArray⟩] | 14 => .int .i64 st | 15 => .int .i64 0 | 18 => .int .i64 st | 19 => .int .i64 0 | _ => undef) (fun f v wx => Ext [] wr wx ∧ (f 16 = true → ∃ L, v 16 = .pointer (some ⟨L, 0, none⟩) ∧ wr.heap.size ≤ L ∧ (f 17 = false → Blk wx L 63 [.int .i64 0, .int .i64 0, .int .i64 0, .string ⟨#[]⟩]) ∧ (f 17 = true → Blk wx L 63 [.int .i64 rk, .int .i64 ri, .int .i64 rt, .string ⟨rd.toArray⟩]))) (by kernel_rfl) (by kernel_rfl) ?hst0_8 ?h00_8 ?hst_8 ?hend_8
      case hst0_8 =>
        rintro f v w w' ⟨hx, j3⟩ hx2
        refine ⟨hx.then0 hx2, fun h => ?_⟩
        obtain ⟨L, eL, hL, jz, jn⟩ := j3 h
        exact ⟨L, eL, hL, fun h8 => Blk.keep (jz h8) hx2 List.not_mem_nil, fun h8 => Blk.keep (jn h8) hx2 List.not_mem_nil⟩
      case h00_8 =>
        exact ⟨Ext.refl _ _, fun h => (by cases h)⟩
      case hst_8 =>
        refine ⟨?f0_8, ?f1_8, ?f2_8, ?f3_8, ?f4_8, ?f5_8, ?f6_8, ?f7_8, ?f8_8, ?f9_8, ?f10_8, ?f11_8, ?f12_8, ?f13_8, ?f14_8, ?f15_8, ?f16_8, ?f17_8, ?f18_8, ?f19_8, trivial⟩
        case f0_8 =>
          intro f v g w' hJ hfi hb hd
          refine arm_u rfl ?_
          refine op_run rfl ?_
          generalize hA : mkAct _ _ g = A
          have h0 : A.tmps[0]?.getD undef = .pointer (some ⟨q, 0, none⟩) := by rw [← hA]; exact mkAct_out2 _ _ _ _ _ rfl rfl
          refine step_val (v := .pointer (some ⟨q, 0, none⟩)) (w' := w') ?_ ⟨rfl, Ext.refl _ _⟩
          simp [execOp, h0, Result.andThen, go_sem]
        case f1_8 =>
          intro f v g w' hJ hfi hb hd
          refine arm_u rfl ?_
          refine op_run rfl ?_
          have e20 : g 20 = .pointer (some ⟨q, 0, none⟩) := value_u (hd ⟨0, .data⟩ (by simp) rfl) rfl rfl
          generalize hA : mkAct _ _ g = A
          have h20 : A.tmps[20]?.getD undef = .pointer (some ⟨q, 0, none⟩) := by rw [← hA, mkAct_in2 _ _ _ _ rfl rfl]; exact e20
          refine step_val (v := .pointer (some ⟨q, 0, none⟩)) (w' := w') ?_ ⟨rfl, Ext.refl _ _⟩
          simp [execOp, h20, Result.andThen, go_sem]
        case f2_8 =>
          intro f v g w' hJ hfi hb hd
          refine arm_u rfl ?_
          refine op_run rfl ?_
          have e21 : g 21 = .pointer (some ⟨q, 0, none⟩) := value_u (hd ⟨1, .data⟩ (by simp) rfl) rfl rfl
          generalize hA : mkAct _ _ g = A
          have h21 : A.tmps[21]?.getD undef = .pointer (some ⟨q, 0, none⟩) := by rw [← hA, mkAct_in2 _ _ _ _ rfl rfl]; exact e21
          refine step_val (v := .pointer (some ⟨q, 0, none⟩)) (w' := w') ?_ ⟨rfl, Ext.refl _ _⟩
          simp [execOp, h21, Result.andThen, go_sem]
        case f3_8 =>
          intro f v g w' hJ hfi hb hd
          refine arm_u rfl ?_
          refine op_run rfl ?_
          have e22 : g 22 = .pointer (some ⟨q, 0, none⟩) := value_u (hd ⟨2, .data⟩ (by simp) rfl) rfl rfl
          generalize hA : mkAct _ _ g = A
          have h22 : A.tmps[22]?.getD undef = .pointer (some ⟨q, 0, none⟩) := by rw [← hA, mkAct_in2 _ _ _ _ rfl rfl]; exact e22
          have c := (cq w' hJ.1).1
          refine step_val (v := .pointer (some ⟨b, 0, none⟩)) (w' := w') ?_ ⟨rfl, Ext.refl _ _⟩
          simp [execOp, h22, c, Result.andThen, go_sem]
        case f4_8 =>
          intro f v g w' hJ hfi hb hd
          refine arm_u rfl ?_
          refine op_run rfl ?_
          generalize hA : mkAct _ _ g = A
          have h0 : A.tmps[0]?.getD undef = .pointer (some ⟨q, 0, none⟩) := by rw [← hA]; exact mkAct_out2 _ _ _ _ _ rfl rfl
          refine step_val (v := .pointer (some ⟨q, 0, none⟩)) (w' := w') ?_ ⟨rfl, Ext.refl _ _⟩
          simp [execOp, h0, Result.andThen, go_sem]
        case f5_8 =>
          intro f v g w' hJ hfi hb hd
          refine arm_u rfl ?_
          refine op_run rfl ?_
          generalize hA : mkAct _ _ g = A
          have h0 : A.tmps[0]?.getD undef = .pointer (some ⟨q, 0, none⟩) := by rw [← hA]; exact mkAct_out2 _ _ _ _ _ rfl rfl
          refine step_val (v := .pointer (some ⟨q, 0, none⟩)) (w' := w') ?_ ⟨rfl, Ext.refl _ _⟩
          simp [execOp, h0, Result.andThen, go_sem]
        case f6_8 =>
          intro f v g w' hJ hfi hb hd
          refine arm_u rfl ?_
          refine op_run rfl ?_
          have e25 : g 25 = .pointer (some ⟨q, 0, none⟩) := value_u (hd ⟨5, .data⟩ (by simp) rfl) rfl rfl
          generalize hA : mkAct _ _ g = A
          have h25 : A.tmps[25]?.getD undef = .pointer (some ⟨q, 0, none⟩) := by rw [← hA, mkAct_in2 _ _ _ _ rfl rfl]; exact e25
          refine step_val (v := .pointer (some ⟨q, 0, none⟩)) (w' := w') ?_ ⟨rfl, Ext.refl _ _⟩
          simp [execOp, h25, Result.andThen, go_sem]
        case f7_8 =>
          intro f v g w' hJ hfi hb hd
          refine arm_u rfl ?_
          refine op_run rfl ?_
          have e26 : g 26 = .pointer (some ⟨q, 0, none⟩) := value_u (hd ⟨6, .data⟩ (by simp) rfl) rfl rfl
          generalize hA : mkAct _ _ g = A
          have h26 : A.tmps[26]?.getD undef = .pointer (some ⟨q, 0, none⟩) := by rw [← hA, mkAct_in2 _ _ _ _ rfl rfl]; exact e26
          refine step_val (v := .pointer (some ⟨q, 2, none⟩)) (w' := w') ?_ ⟨rfl, Ext.refl _ _⟩
          simp [execOp, h26, Result.andThen, go_sem]
        case f8_8 =>
          intro f v g w' hJ hfi hb hd
          refine arm_u rfl ?_
          refine op_run rfl ?_
          have e27 : g 27 = .pointer (some ⟨q, 2, none⟩) := value_u (hd ⟨7, .data⟩ (by simp) rfl) rfl rfl
          generalize hA : mkAct _ _ g = A
          have h27 : A.tmps[27]?.getD undef = .pointer (some ⟨q, 2, none⟩) := by rw [← hA, mkAct_in2 _ _ _ _ rfl rfl]; exact e27
          have c := (cq w' hJ.1).2.2.1
          refine step_val (v := .int .i64 s.area) (w' := w') ?_ ⟨rfl, Ext.refl _ _⟩
          simp [execOp, h27, c, Result.andThen, go_sem]
        case f9_8 =>
          intro f v g w' hJ hfi hb hd
          refine arm_u rfl ?_
          refine op_run rfl ?_
          generalize hA : mkAct _ _ g = A
          have h3 : A.tmps[3]?.getD undef = .int .i64 (p : Int) := by rw [← hA]; exact mkAct_out2 _ _ _ _ _ rfl rfl
          refine step_val (v := .int .i64 (p : Int)) (w' := w') ?_ ⟨rfl, Ext.refl _ _⟩
          simp [execOp, h3, Result.andThen, go_sem]
        case f10_8 =>
          intro f v g w' hJ hfi hb hd
          refine arm_u rfl ?_
          refine op_run rfl ?_
          have e24 : g 24 = .pointer (some ⟨q, 0, none⟩) := value_u (hd ⟨4, .data⟩ (by simp) rfl) rfl rfl
          have e28 : g 28 = .int .i64 s.area := value_u (hd ⟨8, .data⟩ (by simp) rfl) rfl rfl
          have e29 : g 29 = .int .i64 (p : Int) := value_u (hd ⟨9, .data⟩ (by simp) rfl) rfl rfl
          generalize hA : mkAct _ _ g = A
          have h24 : A.tmps[24]?.getD undef = .pointer (some ⟨q, 0, none⟩) := by rw [← hA, mkAct_in2 _ _ _ _ rfl rfl]; exact e24
          have h28 : A.tmps[28]?.getD undef = .int .i64 s.area := by rw [← hA, mkAct_in2 _ _ _ _ rfl rfl]; exact e28
          have h29 : A.tmps[29]?.getD undef = .int .i64 (p : Int) := by rw [← hA, mkAct_in2 _ _ _ _ rfl rfl]; exact e29
          refine float_u (fun K hK => ?_)
          go_simp
          refine (cb w' hJ.1).mono ?_
          rintro e w2 ⟨rfl, hx2⟩
          exact hK w2 hx2
        case f11_8 =>
          intro f v g w' hJ hfi hb hd
          refine arm_u rfl ?_
          refine op_run rfl ?_
          have e23 : g 23 = .pointer (some ⟨b, 0, none⟩) := value_u (hd ⟨3, .data⟩ (by simp) rfl) rfl rfl
          have e30 : g 30 = .int .i64 Bl := value_u (hd ⟨10, .data⟩ (by simp) rfl) rfl rfl
          generalize hA : mkAct _ _ g = A
          have h23 : A.tmps[23]?.getD undef = .pointer (some ⟨b, 0, none⟩) := by rw [← hA, mkAct_in2 _ _ _ _ rfl rfl]; exact e23
          have h30 : A.tmps[30]?.getD undef = .int .i64 Bl := by rw [← hA, mkAct_in2 _ _ _ _ rfl rfl]; exact e30
          refine float_u (fun K hK => ?_)
          go_simp
          refine (cr w' hJ.1).mono ?_
          rintro e w2 ⟨rfl, hx2⟩
          exact hK w2 hx2
        case f12_8 =>
          intro f v g w' hJ hfi hb hd
          refine arm_u rfl ?_
          refine op_run rfl ?_
          have e31 : g 31 = .tuple #[.agg #[.int .i64 rk, .int .i64 ri, .int .i64 rt, .string ⟨rd.toArray⟩], .int .i64 st, .int .i64 0] := value_u (hd ⟨11, .data⟩ (by simp) rfl) rfl rfl
          generalize hA : mkAct _ _ g = A
          have h31 : A.tmps[31]?.getD undef = .tuple #[.agg #[.int .i64 rk, .int .i64 ri, .int .i64 rt, .string ⟨rd.toArray⟩], .int .i64 st, .int .i64 0] := by rw [← hA, mkAct_in2 _ _ _ _ rfl rfl]; exact e31
          refine step_val (v := .tuple #[.agg #[.int .i64 rk, .int .i64 ri, .int .i64 rt, .string ⟨rd.toArray⟩], .int .i64 st, .int .i64 0]) (w' := w') ?_ ⟨rfl, Ext.refl _ _⟩
          simp [execOp, h31, Result.andThen, go_sem]
        case f13_8 =>
          intro f v g w' hJ hfi hb hd
          refine arm_u rfl ?_
          refine op_run rfl ?_
          have e19 : g 19 = .tuple #[.agg #[.int .i64 rk, .int .i64 ri, .int .i64 rt, .string ⟨rd.toArray⟩], .int .i64 st, .int .i64 0] := value_u (hd ⟨12, .data⟩ (by simp) rfl) rfl rfl
          generalize hA : mkAct _ _ g = A
          have h19 : A.tmps[19]?.getD undef = .tuple #[.agg #[.int .i64 rk, .int .i64 ri, .int .i64 rt, .string ⟨rd.toArray⟩], .int .i64 st, .int .i64 0] := by rw [← hA, mkAct_in2 _ _ _ _ rfl rfl]; exact e19
          refine step_val (v := .agg #[.int .i64 rk, .int .i64 ri, .int .i64 rt, .string ⟨rd.toArray⟩]) (w' := w') ?_ ⟨rfl, Ext.refl _ _⟩
          simp [execOp, h19, Result.andThen, go_sem]
        case f14_8 =>
          intro f v g w' hJ hfi hb hd
          refine arm_u rfl ?_
          refine op_run rfl ?_
          have e19 : g 19 = .tuple #[.agg #[.int .i64 rk, .int .i64 ri, .int .i64 rt, .string ⟨rd.toArray⟩], .int .i64 st, .int .i64 0] := value_u (hd ⟨12, .data⟩ (by simp) rfl) rfl rfl
          generalize hA : mkAct _ _ g = A
          have h19 : A.tmps[19]?.getD undef = .tuple #[.agg #[.int .i64 rk, .int .i64 ri, .int .i64 rt, .string ⟨rd.toArray⟩], .int .i64 st, .int .i64 0] := by rw [← hA, mkAct_in2 _ _ _ _ rfl rfl]; exact e19
          refine step_val (v := .int .i64 st) (w' := w') ?_ ⟨rfl, Ext.refl _ _⟩
          simp [execOp, h19, Result.andThen, go_sem]
        case f15_8 =>
          intro f v g w' hJ hfi hb hd
          refine arm_u rfl ?_
          refine op_run rfl ?_
          have e19 : g 19 = .tuple #[.agg #[.int .i64 rk, .int .i64 ri, .int .i64 rt, .string ⟨rd.toArray⟩], .int .i64 st, .int .i64 0] := value_u (hd ⟨12, .data⟩ (by simp) rfl) rfl rfl
          generalize hA : mkAct _ _ g = A
          have h19 : A.tmps[19]?.getD undef = .tuple #[.agg #[.int .i64 rk, .int .i64 ri, .int .i64 rt, .string ⟨rd.toArray⟩], .int .i64 st, .int .i64 0] := by rw [← hA, mkAct_in2 _ _ _ _ rfl rfl]; exact e19
          refine step_val (v := .int .i64 0) (w' := w') ?_ ⟨rfl, Ext.refl _ _⟩
          simp [execOp, h19, Result.andThen, go_sem]
        case f16_8 =>
          intro f v g w' hJ hfi hb hd
          refine arms_u rfl ?_
          refine op_run rfl ?_
          obtain ⟨hx, j3⟩ := hJ
          generalize hA : mkAct _ _ g = A
          have hxa : Ext [] w' (w'.alloc (.cells #[.int .i64 0, .int .i64 0, .int .i64 0, .string ⟨#[]⟩] 63)) := (Ext.refl _ _).alloc _
          refine step_val (v := .pointer (some ⟨w'.heap.size, 0, none⟩)) (w' := w'.alloc (.cells #[.int .i64 0, .int .i64 0, .int .i64 0, .string ⟨#[]⟩] 63)) ?_ ⟨_, rfl, hx.then0 hxa, fun _ => ⟨w'.heap.size, setU_same _ _ _, hx.size, fun _ => Blk.new w' 63 #[.int .i64 0, .int .i64 0, .int .i64 0, .string ⟨#[]⟩], fun h8 => (by have h8' : f 17 = true := h8; rw [not_yet hb (by kernel_rfl)] at h8'; cases h8')⟩⟩
          simp [execOp, Result.andThen, go_sem]
        case f17_8 =>
          intro f v g w' hJ hfi hb hd
          refine arms_u rfl ?_
          refine op_run rfl ?_
          obtain ⟨hfp, ep⟩ := special_u (hd ⟨16, .data⟩ (by simp) rfl) rfl rfl
          replace ep : g 4 = v 16 := ep
          have ev : g 32 = .agg #[.int .i64 rk, .int .i64 ri, .int .i64 rt, .string ⟨rd.toArray⟩] := value_u (hd ⟨13, .data⟩ (by simp) rfl) rfl rfl
          obtain ⟨hx, j3⟩ := hJ
          obtain ⟨L, eL, hL, jz, jn⟩ := j3 hfp
          rw [eL] at ep
          have hB0 := jz hfi
          generalize hA : mkAct _ _ g = A
          have h5 : A.tmps[4]?.getD undef = .pointer (some ⟨L, 0, none⟩) := by rw [← hA, mkAct_in2 _ _ _ _ rfl rfl]; exact ep
          have h6 : A.tmps[32]?.getD undef = .agg #[.int .i64 rk, .int .i64 ri, .int .i64 rt, .string ⟨rd.toArray⟩] := by rw [← hA, mkAct_in2 _ _ _ _ rfl rfl]; exact ev
          have c0 : w'.cell? ⟨L, 0, none⟩ = some (.int .i64 0) := Blk.c hB0 0
          have c1 : w'.cell? ⟨L, 1, none⟩ = some (.int .i64 0) := Blk.c hB0 1
          have c2 : w'.cell? ⟨L, 2, none⟩ = some (.int .i64 0) := Blk.c hB0 2
          have c3 : w'.cell? ⟨L, 3, none⟩ = some (.string ⟨#[]⟩) := Blk.c hB0 3
          have cf := fun j => Blk.f hB0 j
          have cl := Blk.lt hB0
          have HX9 : Ext [L] w' ((((w'.setCell ⟨L, 0, none⟩ (.int .i64 rk)).setCell ⟨L, 1, none⟩ (.int .i64 ri)).setCell ⟨L, 2, none⟩ (.int .i64 rt)).setCell ⟨L, 3, none⟩ (.string ⟨rd.toArray⟩)) := (((((Ext.refl [L] w').setCell (p := ⟨L, 0, none⟩) (.inl (List.mem_singleton.2 rfl)) (.int .i64 rk)).setCell (p := ⟨L, 1, none⟩) (.inl (List.mem_singleton.2 rfl)) (.int .i64 ri)).setCell (p := ⟨L, 2, none⟩) (.inl (List.mem_singleton.2 rfl)) (.int .i64 rt)).setCell (p := ⟨L, 3, none⟩) (.inl (List.mem_singleton.2 rfl)) (.string ⟨rd.toArray⟩))
          have HB9 := (Blk.set (Blk.set (Blk.set (Blk.set hB0 0 (.int .i64 rk)) 1 (.int .i64 ri)) 2 (.int .i64 rt)) 3 (.string ⟨rd.toArray⟩))
          refine step_skip (w' := ((((w'.setCell ⟨L, 0, none⟩ (.int .i64 rk)).setCell ⟨L, 1, none⟩ (.int .i64 ri)).setCell ⟨L, 2, none⟩ (.int .i64 rt)).setCell ⟨L, 3, none⟩ (.string ⟨rd.toArray⟩))) ?_ ⟨undef, rfl, hx.trans HX9 (fun z hz => by simp at hz; subst hz; exact .inr hL), fun _ => ⟨L, eL, hL, fun h => (by cases h), fun _ => HB9⟩⟩
          simp [execOp, h5, h6, c0, c1, c2, c3, cf, cl, Result.andThen, go_sem]
        case f18_8 =>
          intro f v g w' hJ hfi hb hd
          refine arm_u rfl ?_
          refine op_run rfl ?_
          have e33 : g 33 = .int .i64 st := value_u (hd ⟨14, .data⟩ (by simp) rfl) rfl rfl
          generalize hA : mkAct _ _ g = A
          have h33 : A.tmps[33]?.getD undef = .int .i64 st := by rw [← hA, mkAct_in2 _ _ _ _ rfl rfl]; exact e33
          refine step_val (v := .int .i64 st) (w' := w') ?_ ⟨rfl, Ext.refl _ _⟩
          simp [execOp, h33, Result.andThen, go_sem]
        case f19_8 =>
          intro f v g w' hJ hfi hb hd
          refine arm_u rfl ?_
          refine op_run rfl ?_
          have e34 : g 34 = .int .i64 0 := value_u (hd ⟨15, .data⟩ (by simp) rfl) rfl rfl
          generalize hA : mkAct _ _ g = A
          have h34 : A.tmps[34]?.getD undef = .int .i64 0 := by rw [← hA, mkAct_in2 _ _ _ _ rfl rfl]; exact e34
          refine step_val (v := .int .i64 0) (w' := w') ?_ ⟨rfl, Ext.refl _ _⟩
          simp [execOp, h34, Result.andThen, go_sem]
      intro f v g wn hJ hk
      obtain ⟨hf4, e4⟩ := special_u (hk 16 (by decide)) rfl rfl
      replace e4 : g 4 = v 16 := e4
      have e5 : g 5 = .int .i64 st := value_u (hk 18 (by decide)) rfl rfl
      have e6 : g 6 = .int .i64 0 := value_u (hk 19 (by decide)) rfl rfl
      have hfs17 : f 17 = true := ((hk 17 (by decide)).2 rfl).1
      obtain ⟨hx9, j3⟩ := hJ
      obtain ⟨L, eL, hL, jz, jn⟩ := j3 hf4
      rw [eL] at e4
      have hBL := jn hfs17
      clear hk j3 jz jn eL hf4 hfs17
      have HX8 := Hid.of hx9
      have HL8 := Hid.of hBL
      clear hx9 hBL hL cr cb cq
      unfold mkAct; simp only [List.zipIdx_cons, List.zipIdx_nil, List.map_cons, List.map_nil, Nat.zero_add, Nat.reduceAdd, List.contains_cons, List.contains_nil, Nat.reduceBEq, Bool.or_false, Bool.or_true, ↓reduceIte, Bool.false_eq_true]
      rw [e4, e5, e6]
      clear e4 e5 e6
      have l4 := Blk4 HL8.out
      have cl := listOf_any ⟨rk, ri, rt, rd⟩ wn (by show rd.length ≤ 1000000; omega)
      go_wp2_with fail
      refine cl.mono ?_
      rintro e w9 ⟨zv, rfl, ho9, hx9, hv9⟩
      obtain ⟨za, zc, rfl⟩ := Rd.isSlice ho9.rd
      obtain ⟨M, hM⟩ : ∃ z, z = w9.heap.size := ⟨_, rfl⟩
      have HT0 := Hid.of (rfl : lsOf ⟨rk, ri, rt, rd⟩ = lsOf ⟨rk, ri, rt, rd⟩)
      obtain ⟨l9, hl9⟩ : ∃ z, z = lsOf ⟨rk, ri, rt, rd⟩ := ⟨_, rfl⟩
      obtain ⟨ok, hokk⟩ : ∃ z, z = lsOk ⟨rk, ri, rt, rd⟩ := ⟨_, rfl⟩
      rw [← hl9] at ho9 ⊢
      rw [← hokk]
      obtain ⟨w10, hw10⟩ : ∃ w, w = w9.alloc (.cells #[.int .i64 l9.idx, .int .i64 l9.term, .int .i64 l9.bytes, .slice za l9.sums.length zc] 42) := ⟨_, rfl⟩
      have hx10 : Ext [] w9 w10 := by rw [hw10]; exact (Ext.refl _ _).alloc _
      have HM10 : Hid (Blk w10 M 42 [.int .i64 l9.idx, .int .i64 l9.term, .int .i64 l9.bytes, .slice za l9.sums.length zc]) := Hid.of (by rw [hw10]; exact Blk.newg hM.symm)
      have HS10 : Hid (Sums w10 (.slice za l9.sums.length zc) l9.sums) := Hid.of (Rd.keep ho9.rd hx10 (by simp))
      have HX10 := Hid.of ((hX.out.then0 HX8.out).then0 (hx9.then0 hx10))
      have HSt := Hid.of (H.out.keep HX10.out)
      obtain ⟨T, hT⟩ : ∃ T, T = decide (¬ (st = 1 ∧ ok = true ∧ l9 = s.list)) := ⟨_, rfl⟩
      have HT := Hid.of hT
      have HLst : Hid (T = false → (V (s.b s.area (p : Int))).lst s.list) := Hid.of (fun h => by
        rw [HV.out]
        have := of_decide_eq_false (hT.symm.trans h)
        have h2 : st = 1 ∧ ok = true ∧ l9 = s.list := Decidable.of_not_not this
        exact ⟨h2.1, by rw [← hokk]; exact h2.2.1, by rw [← hl9]; exact h2.2.2⟩)
      have HNl : Hid (T = true → ¬ (V (s.b s.area (p : Int))).lst s.list) := Hid.of (fun h hl => by
        have := of_decide_eq_true (hT.symm.trans h)
        rw [HV.out] at hl
        exact this ⟨hl.1, by rw [hokk]; exact hl.2.1, by rw [hl9]; exact hl.2.2⟩)
      unfold lsv
      clear cl ho9 hx9 hv9 l4 hT HT0 hl9 hokk HV HL8
      go_upto_region 12 with fail
      rw [← hw10, ← hM]
      clear hw10 hM hx10
      have cm := fun w' (hx : Ext [] w10 w') => Blk4 (Blk.keep HM10.out hx (by simp))
      have cq := fun w' (hx : Ext [] w10 w') => StB.cells (Blk.keep HSt.out.blk hx (by simp) : StB w' q b _ s)
      have cs := fun w' (hx : Ext [] w10 w') => same_any l9 s.list _ _ w' (HS10.out.keep0 hx) (HSt.out.sums.keep0 hx)
      unfold lsv at cs
      go_cut [57] from 17 to 68 (fun u wx => u = .bool T ∧ Hid (Ext [] w10 wx))
      case first =>
        by_cases e1 : st = 1
        · subst e1
          cases ok with
          | false =>
            obtain rfl : T = true := by rw [HT.out]; simp
            refine wp_region_u [43, 44, 45, 46, 47, 48, 49, 50, 51, 52, 53, 54, 55, 56, 57] [] (fun n => match n with | 0 => .int .i64 1 | 1 => .bool false | 2 => .bool false | 3 => .bool false | 4 => .bool true | 5 => .bool true | 6 => .bool true | 7 => undef | 8 => undef | 9 => undef | 10 => undef | 11 => undef | 12 => undef | 13 => undef | 14 => .bool true | _ => undef) (fun f v wx => Ext [] w10 wx) (by kernel_rfl) (by kernel_rfl) ?hst0_12b ?h00_12b ?hst_12b ?hend_12b
            case hst0_12b =>
              exact fun f v w w' h hx => h.then0 hx
            case h00_12b =>
              exact Ext.refl _ _
            case hst_12b =>
              refine ⟨?f0_12b, ?f1_12b, ?f2_12b, ?f3_12b, ?f4_12b, ?f5_12b, ?f6_12b, ?f7_12b, ?f8_12b, ?f9_12b, ?f10_12b, ?f11_12b, ?f12_12b, ?f13_12b, ?f14_12b, trivial⟩
              case f0_12b =>
                intro f v g w' hJ hfi hb hd
                refine arm_u rfl ?_
                refine op_run rfl ?_
                generalize hA : mkAct _ _ g = A
                have h5 : A.tmps[5]?.getD undef = .int .i64 1 := by rw [← hA]; exact mkAct_out2 _ _ _ _ _ rfl rfl
                refine step_val (v := .int .i64 1) (w' := w') ?_ ⟨rfl, Ext.refl _ _⟩
                simp [execOp, h5, Result.andThen, go_sem]
              case f1_12b =>
                intro f v g w' hJ hfi hb hd
                refine arm_u rfl ?_
                refine op_run rfl ?_
                have e43 : g 43 = .int .i64 1 := value_u (hd ⟨0, .data⟩ (by simp) rfl) rfl rfl
                generalize hA : mkAct _ _ g = A
                have h43 : A.tmps[43]?.getD undef = .int .i64 1 := by rw [← hA, mkAct_in2 _ _ _ _ rfl rfl]; exact e43
                refine step_val (v := .bool false) (w' := w') ?_ ⟨rfl, Ext.refl _ _⟩
                simp [execOp, h43, Result.andThen, go_sem]
              case f2_12b =>
                intro f v g w' hJ hfi hb hd
                refine arm_u rfl ?_
                refine op_run rfl ?_
                have e44 : g 44 = .bool false := value_u (hd ⟨1, .data⟩ (by simp) rfl) rfl rfl
                generalize hA : mkAct _ _ g = A
                have h44 : A.tmps[44]?.getD undef = .bool false := by rw [← hA, mkAct_in2 _ _ _ _ rfl rfl]; exact e44
                refine step_val (v := .bool false) (w' := w') ?_ ⟨rfl, Ext.refl _ _⟩
                simp [execOp, h44, Result.andThen, go_sem]
              case f3_12b =>
                intro f v g w' hJ hfi hb hd
                refine arm_u rfl ?_
                have eg : g 45 = .bool false := value_u (hd ⟨2, .guard⟩ (by simp) rfl) rfl rfl
                refine op_yes rfl rfl rfl rfl eg ?_
                generalize hA : mkAct _ _ g = A
                have h8 : A.tmps[8]?.getD undef = .bool false := by rw [← hA]; exact mkAct_out2 _ _ _ _ _ rfl rfl
                refine step_val (v := .bool false) (w' := w') ?_ ⟨rfl, Ext.refl _ _⟩
                simp [execOp, h8, Result.andThen, go_sem]
              case f4_12b =>
                intro f v g w' hJ hfi hb hd
                refine arm_u rfl ?_
                have eg : g 45 = .bool false := value_u (hd ⟨2, .guard⟩ (by simp) rfl) rfl rfl
                refine op_yes rfl rfl rfl rfl eg ?_
                have e46 : g 46 = .bool false := value_u (hd ⟨3, .data⟩ (by simp) rfl) rfl rfl
                generalize hA : mkAct _ _ g = A
                have h46 : A.tmps[46]?.getD undef = .bool false := by rw [← hA, mkAct_in2 _ _ _ _ rfl rfl]; exact e46
                refine step_val (v := .bool true) (w' := w') ?_ ⟨rfl, Ext.refl _ _⟩
                simp [execOp, h46, Result.andThen, go_sem]
              case f5_12b =>
                intro f v g w' hJ hfi hb hd
                refine arm_u rfl ?_
                refine op_run rfl ?_
                have e45 : g 45 = .bool false := value_u (hd ⟨2, .data⟩ (by simp) rfl) rfl rfl
                have e47 : g 47 = .bool true := value_u (hd ⟨4, .data⟩ (by simp) rfl) rfl rfl
                generalize hA : mkAct _ _ g = A
                have h45 : A.tmps[45]?.getD undef = .bool false := by rw [← hA, mkAct_in2 _ _ _ _ rfl rfl]; exact e45
                have h47 : A.tmps[47]?.getD undef = .bool true := by rw [← hA, mkAct_in2 _ _ _ _ rfl rfl]; exact e47
                refine step_val (v := .bool true) (w' := w') ?_ ⟨rfl, Ext.refl _ _⟩
                simp [execOp, h45, h47, Result.andThen, go_sem]
              case f6_12b =>
                intro f v g w' hJ hfi hb hd
                refine arm_u rfl ?_
                refine op_run rfl ?_
                have e48 : g 48 = .bool true := value_u (hd ⟨5, .data⟩ (by simp) rfl) rfl rfl
                generalize hA : mkAct _ _ g = A
                have h48 : A.tmps[48]?.getD undef = .bool true := by rw [← hA, mkAct_in2 _ _ _ _ rfl rfl]; exact e48
                refine step_val (v := .bool true) (w' := w') ?_ ⟨rfl, Ext.refl _ _⟩
                simp [execOp, h48, Result.andThen, go_sem]
              case f7_12b =>
                intro f v g w' hJ hfi hb hd
                refine arm_u rfl ?_
                have eg : g 49 = .bool true := value_u (hd ⟨6, .guard⟩ (by simp) rfl) rfl rfl
                exact op_no rfl rfl rfl rfl true eg (by decide) ⟨rfl, Ext.refl _ _⟩
              case f8_12b =>
                intro f v g w' hJ hfi hb hd
                refine arm_u rfl ?_
                have eg : g 49 = .bool true := value_u (hd ⟨6, .guard⟩ (by simp) rfl) rfl rfl
                exact op_no rfl rfl rfl rfl true eg (by decide) ⟨rfl, Ext.refl _ _⟩
              case f9_12b =>
                intro f v g w' hJ hfi hb hd
                refine arm_u rfl ?_
                have eg : g 49 = .bool true := value_u (hd ⟨6, .guard⟩ (by simp) rfl) rfl rfl
                exact op_no rfl rfl rfl rfl true eg (by decide) ⟨rfl, Ext.refl _ _⟩
              case f10_12b =>
                intro f v g w' hJ hfi hb hd
                refine arm_u rfl ?_
                have eg : g 49 = .bool true := value_u (hd ⟨6, .guard⟩ (by simp) rfl) rfl rfl
                exact op_no rfl rfl rfl rfl true eg (by decide) ⟨rfl, Ext.refl _ _⟩
              case f11_12b =>
                intro f v g w' hJ hfi hb hd
                refine arm_u rfl ?_
                have eg : g 49 = .bool true := value_u (hd ⟨6, .guard⟩ (by simp) rfl) rfl rfl
                exact op_no rfl rfl rfl rfl true eg (by decide) ⟨rfl, Ext.refl _ _⟩
              case f12_12b =>
                intro f v g w' hJ hfi hb hd
                refine arm_u rfl ?_
                have eg : g 49 = .bool true := value_u (hd ⟨6, .guard⟩ (by simp) rfl) rfl rfl
                exact op_no rfl rfl rfl rfl true eg (by decide) ⟨rfl, Ext.refl _ _⟩
              case f13_12b =>
                intro f v g w' hJ hfi hb hd
                refine arm_u rfl ?_
                have eg : g 49 = .bool true := value_u (hd ⟨6, .guard⟩ (by simp) rfl) rfl rfl
                exact op_no rfl rfl rfl rfl true eg (by decide) ⟨rfl, Ext.refl _ _⟩
              case f14_12b =>
                intro f v g w' hJ hfi hb hd
                refine arm_u rfl ?_
                refine op_run rfl ?_
                have e49 : g 49 = .bool true := value_u (hd ⟨6, .data⟩ (by simp) rfl) rfl rfl
                have e56 : g 56 = undef := value_u (hd ⟨13, .data⟩ (by simp) rfl) rfl rfl
                generalize hA : mkAct _ _ g = A
                have h49 : A.tmps[49]?.getD undef = .bool true := by rw [← hA, mkAct_in2 _ _ _ _ rfl rfl]; exact e49
                have h56 : A.tmps[56]?.getD undef = undef := by rw [← hA, mkAct_in2 _ _ _ _ rfl rfl]; exact e56
                refine step_val (v := .bool true) (w' := w') ?_ ⟨rfl, Ext.refl _ _⟩
                simp [execOp, h49, h56, Result.andThen, go_sem]
            intro f v g wm hJ hk
            have e57 : g 57 = .bool true := value_u (hk 14 (by decide)) rfl rfl
            have hxe := hJ
            clear hk hJ cq cm cs
            unfold mkAct; simp only [List.zipIdx_cons, List.zipIdx_nil, List.map_cons, List.map_nil, Nat.zero_add, Nat.reduceAdd, List.contains_cons, List.contains_nil, Nat.reduceBEq, Bool.or_false, Bool.or_true, ↓reduceIte, Bool.false_eq_true]
            rw [e57]
            go_wp2_with fail
            go_meet
            exact ⟨rfl, hxe⟩
          | true =>
            by_cases e3 : l9 = s.list
            · obtain rfl : T = false := by rw [HT.out]; simp [e3]
              rw [decide_eq_true e3] at cs
              clear e3
              refine wp_region_u [43, 44, 45, 46, 47, 48, 49, 50, 51, 52, 53, 54, 55, 56, 57] [] (fun n => match n with | 0 => .int .i64 1 | 1 => .bool false | 2 => .bool false | 3 => .bool true | 4 => .bool false | 5 => .bool false | 6 => .bool false | 7 => .agg #[.int .i64 l9.idx, .int .i64 l9.term, .int .i64 l9.bytes, .slice za l9.sums.length zc] | 8 => .pointer (some ⟨q, 0, none⟩) | 9 => .pointer (some ⟨q, 0, none⟩) | 10 => .pointer (some ⟨q, 3, none⟩) | 11 => .agg #[.int .i64 s.list.idx, .int .i64 s.list.term, .int .i64 s.list.bytes, .slice sa s.list.sums.length sc] | 12 => .bool true | 13 => .bool false | 14 => .bool false | _ => undef) (fun f v wx => Ext [] w10 wx) (by kernel_rfl) (by kernel_rfl) ?hst0_12d ?h00_12d ?hst_12d ?hend_12d
              case hst0_12d =>
                exact fun f v w w' h hx => h.then0 hx
              case h00_12d =>
                exact Ext.refl _ _
              case hst_12d =>
                refine ⟨?f0_12d, ?f1_12d, ?f2_12d, ?f3_12d, ?f4_12d, ?f5_12d, ?f6_12d, ?f7_12d, ?f8_12d, ?f9_12d, ?f10_12d, ?f11_12d, ?f12_12d, ?f13_12d, ?f14_12d, trivial⟩
                case f0_12d =>
                  intro f v g w' hJ hfi hb hd
                  refine arm_u rfl ?_
                  refine op_run rfl ?_
                  generalize hA : mkAct _ _ g = A
                  have h5 : A.tmps[5]?.getD undef = .int .i64 1 := by rw [← hA]; exact mkAct_out2 _ _ _ _ _ rfl rfl
                  refine step_val (v := .int .i64 1) (w' := w') ?_ ⟨rfl, Ext.refl _ _⟩
                  simp [execOp, h5, Result.andThen, go_sem]
                case f1_12d =>
                  intro f v g w' hJ hfi hb hd
                  refine arm_u rfl ?_
                  refine op_run rfl ?_
                  have e43 : g 43 = .int .i64 1 := value_u (hd ⟨0, .data⟩ (by simp) rfl) rfl rfl
                  generalize hA : mkAct _ _ g = A
                  have h43 : A.tmps[43]?.getD undef = .int .i64 1 := by rw [← hA, mkAct_in2 _ _ _ _ rfl rfl]; exact e43
                  refine step_val (v := .bool false) (w' := w') ?_ ⟨rfl, Ext.refl _ _⟩
                  simp [execOp, h43, Result.andThen, go_sem]
                case f2_12d =>
                  intro f v g w' hJ hfi hb hd
                  refine arm_u rfl ?_
                  refine op_run rfl ?_
                  have e44 : g 44 = .bool false := value_u (hd ⟨1, .data⟩ (by simp) rfl) rfl rfl
                  generalize hA : mkAct _ _ g = A
                  have h44 : A.tmps[44]?.getD undef = .bool false := by rw [← hA, mkAct_in2 _ _ _ _ rfl rfl]; exact e44
                  refine step_val (v := .bool false) (w' := w') ?_ ⟨rfl, Ext.refl _ _⟩
                  simp [execOp, h44, Result.andThen, go_sem]
                case f3_12d =>
                  intro f v g w' hJ hfi hb hd
                  refine arm_u rfl ?_
                  have eg : g 45 = .bool false := value_u (hd ⟨2, .guard⟩ (by simp) rfl) rfl rfl
                  refine op_yes rfl rfl rfl rfl eg ?_
                  generalize hA : mkAct _ _ g = A
                  have h8 : A.tmps[8]?.getD undef = .bool true := by rw [← hA]; exact mkAct_out2 _ _ _ _ _ rfl rfl
                  refine step_val (v := .bool true) (w' := w') ?_ ⟨rfl, Ext.refl _ _⟩
                  simp [execOp, h8, Result.andThen, go_sem]
                case f4_12d =>
                  intro f v g w' hJ hfi hb hd
                  refine arm_u rfl ?_
                  have eg : g 45 = .bool false := value_u (hd ⟨2, .guard⟩ (by simp) rfl) rfl rfl
                  refine op_yes rfl rfl rfl rfl eg ?_
                  have e46 : g 46 = .bool true := value_u (hd ⟨3, .data⟩ (by simp) rfl) rfl rfl
                  generalize hA : mkAct _ _ g = A
                  have h46 : A.tmps[46]?.getD undef = .bool true := by rw [← hA, mkAct_in2 _ _ _ _ rfl rfl]; exact e46
                  refine step_val (v := .bool false) (w' := w') ?_ ⟨rfl, Ext.refl _ _⟩
                  simp [execOp, h46, Result.andThen, go_sem]
                case f5_12d =>
                  intro f v g w' hJ hfi hb hd
                  refine arm_u rfl ?_
                  refine op_run rfl ?_
                  have e45 : g 45 = .bool false := value_u (hd ⟨2, .data⟩ (by simp) rfl) rfl rfl
                  have e47 : g 47 = .bool false := value_u (hd ⟨4, .data⟩ (by simp) rfl) rfl rfl
                  generalize hA : mkAct _ _ g = A
                  have h45 : A.tmps[45]?.getD undef = .bool false := by rw [← hA, mkAct_in2 _ _ _ _ rfl rfl]; exact e45
                  have h47 : A.tmps[47]?.getD undef = .bool false := by rw [← hA, mkAct_in2 _ _ _ _ rfl rfl]; exact e47
                  refine step_val (v := .bool false) (w' := w') ?_ ⟨rfl, Ext.refl _ _⟩
                  simp [execOp, h45, h47, Result.andThen, go_sem]
                case f6_12d =>
                  intro f v g w' hJ hfi hb hd
                  refine arm_u rfl ?_
                  refine op_run rfl ?_
                  have e48 : g 48 = .bool false := value_u (hd ⟨5, .data⟩ (by simp) rfl) rfl rfl
                  generalize hA : mkAct _ _ g = A
                  have h48 : A.tmps[48]?.getD undef = .bool false := by rw [← hA, mkAct_in2 _ _ _ _ rfl rfl]; exact e48
                  refine step_val (v := .bool false) (w' := w') ?_ ⟨rfl, Ext.refl _ _⟩
                  simp [execOp, h48, Result.andThen, go_sem]
                case f7_12d =>
                  intro f v g w' hJ hfi hb hd
                  refine arm_u rfl ?_
                  have eg : g 49 = .bool false := value_u (hd ⟨6, .guard⟩ (by simp) rfl) rfl rfl
                  refine op_yes rfl rfl rfl rfl eg ?_
                  generalize hA : mkAct _ _ g = A
                  have h7 : A.tmps[7]?.getD undef = .pointer (some ⟨M, 0, none⟩) := by rw [← hA]; exact mkAct_out2 _ _ _ _ _ rfl rfl
                  obtain ⟨d0, d1, d2, d3⟩ := (cm w' hJ)
                  refine step_val (v := .agg #[.int .i64 l9.idx, .int .i64 l9.term, .int .i64 l9.bytes, .slice za l9.sums.length zc]) (w' := w') ?_ ⟨rfl, Ext.refl _ _⟩
                  simp [execOp, h7, d0, d1, d2, d3, Result.andThen, go_sem]
                case f8_12d =>
                  intro f v g w' hJ hfi hb hd
                  refine arm_u rfl ?_
                  have eg : g 49 = .bool false := value_u (hd ⟨6, .guard⟩ (by simp) rfl) rfl rfl
                  refine op_yes rfl rfl rfl rfl eg ?_
                  generalize hA : mkAct _ _ g = A
                  have h0 : A.tmps[0]?.getD undef = .pointer (some ⟨q, 0, none⟩) := by rw [← hA]; exact mkAct_out2 _ _ _ _ _ rfl rfl
                  refine step_val (v := .pointer (some ⟨q, 0, none⟩)) (w' := w') ?_ ⟨rfl, Ext.refl _ _⟩
                  simp [execOp, h0, Result.andThen, go_sem]
                case f9_12d =>
                  intro f v g w' hJ hfi hb hd
                  refine arm_u rfl ?_
                  have eg : g 49 = .bool false := value_u (hd ⟨6, .guard⟩ (by simp) rfl) rfl rfl
                  refine op_yes rfl rfl rfl rfl eg ?_
                  have e51 : g 51 = .pointer (some ⟨q, 0, none⟩) := value_u (hd ⟨8, .data⟩ (by simp) rfl) rfl rfl
                  generalize hA : mkAct _ _ g = A
                  have h51 : A.tmps[51]?.getD undef = .pointer (some ⟨q, 0, none⟩) := by rw [← hA, mkAct_in2 _ _ _ _ rfl rfl]; exact e51
                  refine step_val (v := .pointer (some ⟨q, 0, none⟩)) (w' := w') ?_ ⟨rfl, Ext.refl _ _⟩
                  simp [execOp, h51, Result.andThen, go_sem]
                case f10_12d =>
                  intro f v g w' hJ hfi hb hd
                  refine arm_u rfl ?_
                  have eg : g 49 = .bool false := value_u (hd ⟨6, .guard⟩ (by simp) rfl) rfl rfl
                  refine op_yes rfl rfl rfl rfl eg ?_
                  have e52 : g 52 = .pointer (some ⟨q, 0, none⟩) := value_u (hd ⟨9, .data⟩ (by simp) rfl) rfl rfl
                  generalize hA : mkAct _ _ g = A
                  have h52 : A.tmps[52]?.getD undef = .pointer (some ⟨q, 0, none⟩) := by rw [← hA, mkAct_in2 _ _ _ _ rfl rfl]; exact e52
                  refine step_val (v := .pointer (some ⟨q, 3, none⟩)) (w' := w') ?_ ⟨rfl, Ext.refl _ _⟩
                  simp [execOp, h52, Result.andThen, go_sem]
                case f11_12d =>
                  intro f v g w' hJ hfi hb hd
                  refine arm_u rfl ?_
                  have eg : g 49 = .bool false := value_u (hd ⟨6, .guard⟩ (by simp) rfl) rfl rfl
                  refine op_yes rfl rfl rfl rfl eg ?_
                  have e53 : g 53 = .pointer (some ⟨q, 3, none⟩) := value_u (hd ⟨10, .data⟩ (by simp) rfl) rfl rfl
                  generalize hA : mkAct _ _ g = A
                  have h53 : A.tmps[53]?.getD undef = .pointer (some ⟨q, 3, none⟩) := by rw [← hA, mkAct_in2 _ _ _ _ rfl rfl]; exact e53
                  obtain ⟨d0, d1, d2, d3⟩ := (cq w' hJ).2.2.2
                  refine step_val (v := .agg #[.int .i64 s.list.idx, .int .i64 s.list.term, .int .i64 s.list.bytes, .slice sa s.list.sums.length sc]) (w' := w') ?_ ⟨rfl, Ext.refl _ _⟩
                  simp [execOp, h53, d0, d1, d2, d3, Result.andThen, go_sem]
                case f12_12d =>
                  intro f v g w' hJ hfi hb hd
                  refine arm_u rfl ?_
                  have eg : g 49 = .bool false := value_u (hd ⟨6, .guard⟩ (by simp) rfl) rfl rfl
                  refine op_yes rfl rfl rfl rfl eg ?_
                  have e50 : g 50 = .agg #[.int .i64 l9.idx, .int .i64 l9.term, .int .i64 l9.bytes, .slice za l9.sums.length zc] := value_u (hd ⟨7, .data⟩ (by simp) rfl) rfl rfl
                  have e54 : g 54 = .agg #[.int .i64 s.list.idx, .int .i64 s.list.term, .int .i64 s.list.bytes, .slice sa s.list.sums.length sc] := value_u (hd ⟨11, .data⟩ (by simp) rfl) rfl rfl
                  generalize hA : mkAct _ _ g = A
                  have h50 : A.tmps[50]?.getD undef = .agg #[.int .i64 l9.idx, .int .i64 l9.term, .int .i64 l9.bytes, .slice za l9.sums.length zc] := by rw [← hA, mkAct_in2 _ _ _ _ rfl rfl]; exact e50
                  have h54 : A.tmps[54]?.getD undef = .agg #[.int .i64 s.list.idx, .int .i64 s.list.term, .int .i64 s.list.bytes, .slice sa s.list.sums.length sc] := by rw [← hA, mkAct_in2 _ _ _ _ rfl rfl]; exact e54
                  refine float_u (fun K hK => ?_)
                  go_simp
                  refine (cs w' hJ).mono ?_
                  rintro e w2 ⟨rfl, hx2⟩
                  exact hK w2 hx2
                case f13_12d =>
                  intro f v g w' hJ hfi hb hd
                  refine arm_u rfl ?_
                  have eg : g 49 = .bool false := value_u (hd ⟨6, .guard⟩ (by simp) rfl) rfl rfl
                  refine op_yes rfl rfl rfl rfl eg ?_
                  have e55 : g 55 = .bool true := value_u (hd ⟨12, .data⟩ (by simp) rfl) rfl rfl
                  generalize hA : mkAct _ _ g = A
                  have h55 : A.tmps[55]?.getD undef = .bool true := by rw [← hA, mkAct_in2 _ _ _ _ rfl rfl]; exact e55
                  refine step_val (v := .bool false) (w' := w') ?_ ⟨rfl, Ext.refl _ _⟩
                  simp [execOp, h55, Result.andThen, go_sem]
                case f14_12d =>
                  intro f v g w' hJ hfi hb hd
                  refine arm_u rfl ?_
                  refine op_run rfl ?_
                  have e49 : g 49 = .bool false := value_u (hd ⟨6, .data⟩ (by simp) rfl) rfl rfl
                  have e56 : g 56 = .bool false := value_u (hd ⟨13, .data⟩ (by simp) rfl) rfl rfl
                  generalize hA : mkAct _ _ g = A
                  have h49 : A.tmps[49]?.getD undef = .bool false := by rw [← hA, mkAct_in2 _ _ _ _ rfl rfl]; exact e49
                  have h56 : A.tmps[56]?.getD undef = .bool false := by rw [← hA, mkAct_in2 _ _ _ _ rfl rfl]; exact e56
                  refine step_val (v := .bool false) (w' := w') ?_ ⟨rfl, Ext.refl _ _⟩
                  simp [execOp, h49, h56, Result.andThen, go_sem]
              intro f v g wm hJ hk
              have e57 : g 57 = .bool false := value_u (hk 14 (by decide)) rfl rfl
              have hxe := hJ
              clear hk hJ cq cm cs
              unfold mkAct; simp only [List.zipIdx_cons, List.zipIdx_nil, List.map_cons, List.map_nil, Nat.zero_add, Nat.reduceAdd, List.contains_cons, List.contains_nil, Nat.reduceBEq, Bool.or_false, Bool.or_true, ↓reduceIte, Bool.false_eq_true]
              rw [e57]
              go_wp2_with fail
              go_meet
              exact ⟨rfl, hxe⟩
            · obtain rfl : T = true := by rw [HT.out]; simp [e3]
              rw [decide_eq_false e3] at cs
              refine wp_region_u [43, 44, 45, 46, 47, 48, 49, 50, 51, 52, 53, 54, 55, 56, 57] [] (fun n => match n with | 0 => .int .i64 1 | 1 => .bool false | 2 => .bool false | 3 => .bool true | 4 => .bool false | 5 => .bool false | 6 => .bool false | 7 => .agg #[.int .i64 l9.idx, .int .i64 l9.term, .int .i64 l9.bytes, .slice za l9.sums.length zc] | 8 => .pointer (some ⟨q, 0, none⟩) | 9 => .pointer (some ⟨q, 0, none⟩) | 10 => .pointer (some ⟨q, 3, none⟩) | 11 => .agg #[.int .i64 s.list.idx, .int .i64 s.list.term, .int .i64 s.list.bytes, .slice sa s.list.sums.length sc] | 12 => .bool false | 13 => .bool true | 14 => .bool true | _ => undef) (fun f v wx => Ext [] w10 wx) (by kernel_rfl) (by kernel_rfl) ?hst0_12c ?h00_12c ?hst_12c ?hend_12c
              case hst0_12c =>
                exact fun f v w w' h hx => h.then0 hx
              case h00_12c =>
                exact Ext.refl _ _
              case hst_12c =>
                refine ⟨?f0_12c, ?f1_12c, ?f2_12c, ?f3_12c, ?f4_12c, ?f5_12c, ?f6_12c, ?f7_12c, ?f8_12c, ?f9_12c, ?f10_12c, ?f11_12c, ?f12_12c, ?f13_12c, ?f14_12c, trivial⟩
                case f0_12c =>
                  intro f v g w' hJ hfi hb hd
                  refine arm_u rfl ?_
                  refine op_run rfl ?_
                  generalize hA : mkAct _ _ g = A
                  have h5 : A.tmps[5]?.getD undef = .int .i64 1 := by rw [← hA]; exact mkAct_out2 _ _ _ _ _ rfl rfl
                  refine step_val (v := .int .i64 1) (w' := w') ?_ ⟨rfl, Ext.refl _ _⟩
                  simp [execOp, h5, Result.andThen, go_sem]
                case f1_12c =>
                  intro f v g w' hJ hfi hb hd
                  refine arm_u rfl ?_
                  refine op_run rfl ?_
                  have e43 : g 43 = .int .i64 1 := value_u (hd ⟨0, .data⟩ (by simp) rfl) rfl rfl
                  generalize hA : mkAct _ _ g = A
                  have h43 : A.tmps[43]?.getD undef = .int .i64 1 := by rw [← hA, mkAct_in2 _ _ _ _ rfl rfl]; exact e43
                  refine step_val (v := .bool false) (w' := w') ?_ ⟨rfl, Ext.refl _ _⟩
                  simp [execOp, h43, Result.andThen, go_sem]
                case f2_12c =>
                  intro f v g w' hJ hfi hb hd
                  refine arm_u rfl ?_
                  refine op_run rfl ?_
                  have e44 : g 44 = .bool false := value_u (hd ⟨1, .data⟩ (by simp) rfl) rfl rfl
                  generalize hA : mkAct _ _ g = A
                  have h44 : A.tmps[44]?.getD undef = .bool false := by rw [← hA, mkAct_in2 _ _ _ _ rfl rfl]; exact e44
                  refine step_val (v := .bool false) (w' := w') ?_ ⟨rfl, Ext.refl _ _⟩
                  simp [execOp, h44, Result.andThen, go_sem]
                case f3_12c =>
                  intro f v g w' hJ hfi hb hd
                  refine arm_u rfl ?_
                  have eg : g 45 = .bool false := value_u (hd ⟨2, .guard⟩ (by simp) rfl) rfl rfl
                  refine op_yes rfl rfl rfl rfl eg ?_
                  generalize hA : mkAct _ _ g = A
                  have h8 : A.tmps[8]?.getD undef = .bool true := by rw [← hA]; exact mkAct_out2 _ _ _ _ _ rfl rfl
                  refine step_val (v := .bool true) (w' := w') ?_ ⟨rfl, Ext.refl _ _⟩
                  simp [execOp, h8, Result.andThen, go_sem]
                case f4_12c =>
                  intro f v g w' hJ hfi hb hd
                  refine arm_u rfl ?_
                  have eg : g 45 = .bool false := value_u (hd ⟨2, .guard⟩ (by simp) rfl) rfl rfl
                  refine op_yes rfl rfl rfl rfl eg ?_
                  have e46 : g 46 = .bool true := value_u (hd ⟨3, .data⟩ (by simp) rfl) rfl rfl
                  generalize hA : mkAct _ _ g = A
                  have h46 : A.tmps[46]?.getD undef = .bool true := by rw [← hA, mkAct_in2 _ _ _ _ rfl rfl]; exact e46
                  refine step_val (v := .bool false) (w' := w') ?_ ⟨rfl, Ext.refl _ _⟩
                  simp [execOp, h46, Result.andThen, go_sem]
                case f5_12c =>
                  intro f v g w' hJ hfi hb hd
                  refine arm_u rfl ?_
                  refine op_run rfl ?_
                  have e45 : g 45 = .bool false := value_u (hd ⟨2, .data⟩ (by simp) rfl) rfl rfl
                  have e47 : g 47 = .bool false := value_u (hd ⟨4, .data⟩ (by simp) rfl) rfl rfl
                  generalize hA : mkAct _ _ g = A
                  have h45 : A.tmps[45]?.getD undef = .bool false := by rw [← hA, mkAct_in2 _ _ _ _ rfl rfl]; exact e45
                  have h47 : A.tmps[47]?.getD undef = .bool false := by rw [← hA, mkAct_in2 _ _ _ _ rfl rfl]; exact e47
                  refine step_val (v := .bool false) (w' := w') ?_ ⟨rfl, Ext.refl _ _⟩
                  simp [execOp, h45, h47, Result.andThen, go_sem]
                case f6_12c =>
                  intro f v g w' hJ hfi hb hd
                  refine arm_u rfl ?_
                  refine op_run rfl ?_
                  have e48 : g 48 = .bool false := value_u (hd ⟨5, .data⟩ (by simp) rfl) rfl rfl
                  generalize hA : mkAct _ _ g = A
                  have h48 : A.tmps[48]?.getD undef = .bool false := by rw [← hA, mkAct_in2 _ _ _ _ rfl rfl]; exact e48
                  refine step_val (v := .bool false) (w' := w') ?_ ⟨rfl, Ext.refl _ _⟩
                  simp [execOp, h48, Result.andThen, go_sem]
                case f7_12c =>
                  intro f v g w' hJ hfi hb hd
                  refine arm_u rfl ?_
                  have eg : g 49 = .bool false := value_u (hd ⟨6, .guard⟩ (by simp) rfl) rfl rfl
                  refine op_yes rfl rfl rfl rfl eg ?_
                  generalize hA : mkAct _ _ g = A
                  have h7 : A.tmps[7]?.getD undef = .pointer (some ⟨M, 0, none⟩) := by rw [← hA]; exact mkAct_out2 _ _ _ _ _ rfl rfl
                  obtain ⟨d0, d1, d2, d3⟩ := (cm w' hJ)
                  refine step_val (v := .agg #[.int .i64 l9.idx, .int .i64 l9.term, .int .i64 l9.bytes, .slice za l9.sums.length zc]) (w' := w') ?_ ⟨rfl, Ext.refl _ _⟩
                  simp [execOp, h7, d0, d1, d2, d3, Result.andThen, go_sem]
                case f8_12c =>
                  intro f v g w' hJ hfi hb hd
                  refine arm_u rfl ?_
                  have eg : g 49 = .bool false := value_u (hd ⟨6, .guard⟩ (by simp) rfl) rfl rfl
                  refine op_yes rfl rfl rfl rfl eg ?_
                  generalize hA : mkAct _ _ g = A
                  have h0 : A.tmps[0]?.getD undef = .pointer (some ⟨q, 0, none⟩) := by rw [← hA]; exact mkAct_out2 _ _ _ _ _ rfl rfl
                  refine step_val (v := .pointer (some ⟨q, 0, none⟩)) (w' := w') ?_ ⟨rfl, Ext.refl _ _⟩
                  simp [execOp, h0, Result.andThen, go_sem]
                case f9_12c =>
                  intro f v g w' hJ hfi hb hd
                  refine arm_u rfl ?_
                  have eg : g 49 = .bool false := value_u (hd ⟨6, .guard⟩ (by simp) rfl) rfl rfl
                  refine op_yes rfl rfl rfl rfl eg ?_
                  have e51 : g 51 = .pointer (some ⟨q, 0, none⟩) := value_u (hd ⟨8, .data⟩ (by simp) rfl) rfl rfl
                  generalize hA : mkAct _ _ g = A
                  have h51 : A.tmps[51]?.getD undef = .pointer (some ⟨q, 0, none⟩) := by rw [← hA, mkAct_in2 _ _ _ _ rfl rfl]; exact e51
                  refine step_val (v := .pointer (some ⟨q, 0, none⟩)) (w' := w') ?_ ⟨rfl, Ext.refl _ _⟩
                  simp [execOp, h51, Result.andThen, go_sem]
                case f10_12c =>
                  intro f v g w' hJ hfi hb hd
                  refine arm_u rfl ?_
                  have eg : g 49 = .bool false := value_u (hd ⟨6, .guard⟩ (by simp) rfl) rfl rfl
                  refine op_yes rfl rfl rfl rfl eg ?_
                  have e52 : g 52 = .pointer (some ⟨q, 0, none⟩) := value_u (hd ⟨9, .data⟩ (by simp) rfl) rfl rfl
                  generalize hA : mkAct _ _ g = A
                  have h52 : A.tmps[52]?.getD undef = .pointer (some ⟨q, 0, none⟩) := by rw [← hA, mkAct_in2 _ _ _ _ rfl rfl]; exact e52
                  refine step_val (v := .pointer (some ⟨q, 3, none⟩)) (w' := w') ?_ ⟨rfl, Ext.refl _ _⟩
                  simp [execOp, h52, Result.andThen, go_sem]
                case f11_12c =>
                  intro f v g w' hJ hfi hb hd
                  refine arm_u rfl ?_
                  have eg : g 49 = .bool false := value_u (hd ⟨6, .guard⟩ (by simp) rfl) rfl rfl
                  refine op_yes rfl rfl rfl rfl eg ?_
                  have e53 : g 53 = .pointer (some ⟨q, 3, none⟩) := value_u (hd ⟨10, .data⟩ (by simp) rfl) rfl rfl
                  generalize hA : mkAct _ _ g = A
                  have h53 : A.tmps[53]?.getD undef = .pointer (some ⟨q, 3, none⟩) := by rw [← hA, mkAct_in2 _ _ _ _ rfl rfl]; exact e53
                  obtain ⟨d0, d1, d2, d3⟩ := (cq w' hJ).2.2.2
                  refine step_val (v := .agg #[.int .i64 s.list.idx, .int .i64 s.list.term, .int .i64 s.list.bytes, .slice sa s.list.sums.length sc]) (w' := w') ?_ ⟨rfl, Ext.refl _ _⟩
                  simp [execOp, h53, d0, d1, d2, d3, Result.andThen, go_sem]
                case f12_12c =>
                  intro f v g w' hJ hfi hb hd
                  refine arm_u rfl ?_
                  have eg : g 49 = .bool false := value_u (hd ⟨6, .guard⟩ (by simp) rfl) rfl rfl
                  refine op_yes rfl rfl rfl rfl eg ?_
                  have e50 : g 50 = .agg #[.int .i64 l9.idx, .int .i64 l9.term, .int .i64 l9.bytes, .slice za l9.sums.length zc] := value_u (hd ⟨7, .data⟩ (by simp) rfl) rfl rfl
                  have e54 : g 54 = .agg #[.int .i64 s.list.idx, .int .i64 s.list.term, .int .i64 s.list.bytes, .slice sa s.list.sums.length sc] := value_u (hd ⟨11, .data⟩ (by simp) rfl) rfl rfl
                  generalize hA : mkAct _ _ g = A
                  have h50 : A.tmps[50]?.getD undef = .agg #[.int .i64 l9.idx, .int .i64 l9.term, .int .i64 l9.bytes, .slice za l9.sums.length zc] := by rw [← hA, mkAct_in2 _ _ _ _ rfl rfl]; exact e50
                  have h54 : A.tmps[54]?.getD undef = .agg #[.int .i64 s.list.idx, .int .i64 s.list.term, .int .i64 s.list.bytes, .slice sa s.list.sums.length sc] := by rw [← hA, mkAct_in2 _ _ _ _ rfl rfl]; exact e54
                  refine float_u (fun K hK => ?_)
                  go_simp
                  refine (cs w' hJ).mono ?_
                  rintro e w2 ⟨rfl, hx2⟩
                  exact hK w2 hx2
                case f13_12c =>
                  intro f v g w' hJ hfi hb hd
                  refine arm_u rfl ?_
                  have eg : g 49 = .bool false := value_u (hd ⟨6, .guard⟩ (by simp) rfl) rfl rfl
                  refine op_yes rfl rfl rfl rfl eg ?_
                  have e55 : g 55 = .bool false := value_u (hd ⟨12, .data⟩ (by simp) rfl) rfl rfl
                  generalize hA : mkAct _ _ g = A
                  have h55 : A.tmps[55]?.getD undef = .bool false := by rw [← hA, mkAct_in2 _ _ _ _ rfl rfl]; exact e55
                  refine step_val (v := .bool true) (w' := w') ?_ ⟨rfl, Ext.refl _ _⟩
                  simp [execOp, h55, Result.andThen, go_sem]
                case f14_12c =>
                  intro f v g w' hJ hfi hb hd
                  refine arm_u rfl ?_
                  refine op_run rfl ?_
                  have e49 : g 49 = .bool false := value_u (hd ⟨6, .data⟩ (by simp) rfl) rfl rfl
                  have e56 : g 56 = .bool true := value_u (hd ⟨13, .data⟩ (by simp) rfl) rfl rfl
                  generalize hA : mkAct _ _ g = A
                  have h49 : A.tmps[49]?.getD undef = .bool false := by rw [← hA, mkAct_in2 _ _ _ _ rfl rfl]; exact e49
                  have h56 : A.tmps[56]?.getD undef = .bool true := by rw [← hA, mkAct_in2 _ _ _ _ rfl rfl]; exact e56
                  refine step_val (v := .bool true) (w' := w') ?_ ⟨rfl, Ext.refl _ _⟩
                  simp [execOp, h49, h56, Result.andThen, go_sem]
              intro f v g wm hJ hk
              have e57 : g 57 = .bool true := value_u (hk 14 (by decide)) rfl rfl
              have hxe := hJ
              clear hk hJ cq cm cs
              unfold mkAct; simp only [List.zipIdx_cons, List.zipIdx_nil, List.map_cons, List.map_nil, Nat.zero_add, Nat.reduceAdd, List.contains_cons, List.contains_nil, Nat.reduceBEq, Bool.or_false, Bool.or_true, ↓reduceIte, Bool.false_eq_true]
              rw [e57]
              go_wp2_with fail
              go_meet
              exact ⟨rfl, hxe⟩
        · obtain rfl : T = true := by rw [HT.out]; simp [e1]
          refine wp_region_u [43, 44, 45, 46, 47, 48, 49, 50, 51, 52, 53, 54, 55, 56, 57] [] (fun n => match n with | 0 => .int .i64 st | 1 => .bool true | 2 => .bool true | 3 => undef | 4 => undef | 5 => .bool true | 6 => .bool true | 7 => undef | 8 => undef | 9 => undef | 10 => undef | 11 => undef | 12 => undef | 13 => undef | 14 => .bool true | _ => undef) (fun f v wx => Ext [] w10 wx) (by kernel_rfl) (by kernel_rfl) ?hst0_12a ?h00_12a ?hst_12a ?hend_12a
          case hst0_12a =>
            exact fun f v w w' h hx => h.then0 hx
          case h00_12a =>
            exact Ext.refl _ _
          case hst_12a =>
            refine ⟨?f0_12a, ?f1_12a, ?f2_12a, ?f3_12a, ?f4_12a, ?f5_12a, ?f6_12a, ?f7_12a, ?f8_12a, ?f9_12a, ?f10_12a, ?f11_12a, ?f12_12a, ?f13_12a, ?f14_12a, trivial⟩
            case f0_12a =>
              intro f v g w' hJ hfi hb hd
              refine arm_u rfl ?_
              refine op_run rfl ?_
              generalize hA : mkAct _ _ g = A
              have h5 : A.tmps[5]?.getD undef = .int .i64 st := by rw [← hA]; exact mkAct_out2 _ _ _ _ _ rfl rfl
              refine step_val (v := .int .i64 st) (w' := w') ?_ ⟨rfl, Ext.refl _ _⟩
              simp [execOp, h5, Result.andThen, go_sem]
            case f1_12a =>
              intro f v g w' hJ hfi hb hd
              refine arm_u rfl ?_
              refine op_run rfl ?_
              have e43 : g 43 = .int .i64 st := value_u (hd ⟨0, .data⟩ (by simp) rfl) rfl rfl
              generalize hA : mkAct _ _ g = A
              have h43 : A.tmps[43]?.getD undef = .int .i64 st := by rw [← hA, mkAct_in2 _ _ _ _ rfl rfl]; exact e43
              refine step_val (v := .bool true) (w' := w') ?_ ⟨rfl, Ext.refl _ _⟩
              simp [execOp, e1, h43, Result.andThen, go_sem]
            case f2_12a =>
              intro f v g w' hJ hfi hb hd
              refine arm_u rfl ?_
              refine op_run rfl ?_
              have e44 : g 44 = .bool true := value_u (hd ⟨1, .data⟩ (by simp) rfl) rfl rfl
              generalize hA : mkAct _ _ g = A
              have h44 : A.tmps[44]?.getD undef = .bool true := by rw [← hA, mkAct_in2 _ _ _ _ rfl rfl]; exact e44
              refine step_val (v := .bool true) (w' := w') ?_ ⟨rfl, Ext.refl _ _⟩
              simp [execOp, h44, Result.andThen, go_sem]
            case f3_12a =>
              intro f v g w' hJ hfi hb hd
              refine arm_u rfl ?_
              have eg : g 45 = .bool true := value_u (hd ⟨2, .guard⟩ (by simp) rfl) rfl rfl
              exact op_no rfl rfl rfl rfl true eg (by decide) ⟨rfl, Ext.refl _ _⟩
            case f4_12a =>
              intro f v g w' hJ hfi hb hd
              refine arm_u rfl ?_
              have eg : g 45 = .bool true := value_u (hd ⟨2, .guard⟩ (by simp) rfl) rfl rfl
              exact op_no rfl rfl rfl rfl true eg (by decide) ⟨rfl, Ext.refl _ _⟩
            case f5_12a =>
              intro f v g w' hJ hfi hb hd
              refine arm_u rfl ?_
              refine op_run rfl ?_
              have e45 : g 45 = .bool true := value_u (hd ⟨2, .data⟩ (by simp) rfl) rfl rfl
              have e47 : g 47 = undef := value_u (hd ⟨4, .data⟩ (by simp) rfl) rfl rfl
              generalize hA : mkAct _ _ g = A
              have h45 : A.tmps[45]?.getD undef = .bool true := by rw [← hA, mkAct_in2 _ _ _ _ rfl rfl]; exact e45
              have h47 : A.tmps[47]?.getD undef = undef := by rw [← hA, mkAct_in2 _ _ _ _ rfl rfl]; exact e47
              refine step_val (v := .bool true) (w' := w') ?_ ⟨rfl, Ext.refl _ _⟩
              simp [execOp, h45, h47, Result.andThen, go_sem]
            case f6_12a =>
              intro f v g w' hJ hfi hb hd
              refine arm_u rfl ?_
              refine op_run rfl ?_
              have e48 : g 48 = .bool true := value_u (hd ⟨5, .data⟩ (by simp) rfl) rfl rfl
              generalize hA : mkAct _ _ g = A
              have h48 : A.tmps[48]?.getD undef = .bool true := by rw [← hA, mkAct_in2 _ _ _ _ rfl rfl]; exact e48
              refine step_val (v := .bool true) (w' := w') ?_ ⟨rfl, Ext.refl _ _⟩
              simp [execOp, h48, Result.andThen, go_sem]
            case f7_12a =>
              intro f v g w' hJ hfi hb hd
              refine arm_u rfl ?_
              have eg : g 49 = .bool true := value_u (hd ⟨6, .guard⟩ (by simp) rfl) rfl rfl
              exact op_no rfl rfl rfl rfl true eg (by decide) ⟨rfl, Ext.refl _ _⟩
            case f8_12a =>
              intro f v g w' hJ hfi hb hd
              refine arm_u rfl ?_
              have eg : g 49 = .bool true := value_u (hd ⟨6, .guard⟩ (by simp) rfl) rfl rfl
              exact op_no rfl rfl rfl rfl true eg (by decide) ⟨rfl, Ext.refl _ _⟩
            case f9_12a =>
              intro f v g w' hJ hfi hb hd
              refine arm_u rfl ?_
              have eg : g 49 = .bool true := value_u (hd ⟨6, .guard⟩ (by simp) rfl) rfl rfl
              exact op_no rfl rfl rfl rfl true eg (by decide) ⟨rfl, Ext.refl _ _⟩
            case f10_12a =>
              intro f v g w' hJ hfi hb hd
              refine arm_u rfl ?_
              have eg : g 49 = .bool true := value_u (hd ⟨6, .guard⟩ (by simp) rfl) rfl rfl
              exact op_no rfl rfl rfl rfl true eg (by decide) ⟨rfl, Ext.refl _ _⟩
            case f11_12a =>
              intro f v g w' hJ hfi hb hd
              refine arm_u rfl ?_
              have eg : g 49 = .bool true := value_u (hd ⟨6, .guard⟩ (by simp) rfl) rfl rfl
              exact op_no rfl rfl rfl rfl true eg (by decide) ⟨rfl, Ext.refl _ _⟩
            case f12_12a =>
              intro f v g w' hJ hfi hb hd
              refine arm_u rfl ?_
              have eg : g 49 = .bool true := value_u (hd ⟨6, .guard⟩ (by simp) rfl) rfl rfl
              exact op_no rfl rfl rfl rfl true eg (by decide) ⟨rfl, Ext.refl _ _⟩
            case f13_12a =>
              intro f v g w' hJ hfi hb hd
              refine arm_u rfl ?_
              have eg : g 49 = .bool true := value_u (hd ⟨6, .guard⟩ (by simp) rfl) rfl rfl
              exact op_no rfl rfl rfl rfl true eg (by decide) ⟨rfl, Ext.refl _ _⟩
            case f14_12a =>
              intro f v g w' hJ hfi hb hd
              refine arm_u rfl ?_
              refine op_run rfl ?_
              have e49 : g 49 = .bool true := value_u (hd ⟨6, .data⟩ (by simp) rfl) rfl rfl
              have e56 : g 56 = undef := value_u (hd ⟨13, .data⟩ (by simp) rfl) rfl rfl
              generalize hA : mkAct _ _ g = A
              have h49 : A.tmps[49]?.getD undef = .bool true := by rw [← hA, mkAct_in2 _ _ _ _ rfl rfl]; exact e49
              have h56 : A.tmps[56]?.getD undef = undef := by rw [← hA, mkAct_in2 _ _ _ _ rfl rfl]; exact e56
              refine step_val (v := .bool true) (w' := w') ?_ ⟨rfl, Ext.refl _ _⟩
              simp [execOp, h49, h56, Result.andThen, go_sem]
          intro f v g wm hJ hk
          have e57 : g 57 = .bool true := value_u (hk 14 (by decide)) rfl rfl
          have hxe := hJ
          clear hk hJ cq cm cs
          unfold mkAct; simp only [List.zipIdx_cons, List.zipIdx_nil, List.map_cons, List.map_nil, Nat.zero_add, Nat.reduceAdd, List.contains_cons, List.contains_nil, Nat.reduceBEq, Bool.or_false, Bool.or_true, ↓reduceIte, Bool.false_eq_true]
          rw [e57]
          go_wp2_with fail
          go_meet
          exact ⟨rfl, hxe⟩
      case rest =>
        obtain ⟨rfl, HJ⟩ := hcut
        obtain ⟨w11, hw11⟩ : ∃ w, w = wc := ⟨_, rfl⟩
        rw [← hw11] at HJ ⊢
        have HS11 := Hid.of (HSt.out.keep HJ.out)
        have HX11 := Hid.of (HX10.out.then0 HJ.out)
        clear hw11 cm cq cs HM10 HS10
        cases hTT : T with
        | false =>
          have hl1 := HLst.out hTT
          have HLn2 : Hid (∀ j : Nat, j < p + 1 → (V (s.b s.area j)).lst s.list) := Hid.of (fun j hj => by
            by_cases e : j = p
            · subst e; exact hl1
            · exact hLs.out j (by omega))
          clear hTT hl1
          go_wp2
          go_roundw
          case rel => exact ⟨p + 1, by go_num, by omega, HLn2, HX11⟩
          case measure => simp [intOf]; omega
        | true =>
          have hnl := HNl.out hTT
          have HN : Hid (X = copsD s s.area s.list D) := Hid.of (by
            rw [HX.out]
            refine if_neg (fun hh => hnl ?_)
            rcases (by omega : p = 0 ∨ p = 1) with e | e
            · subst e; exact hh.1
            · subst e; exact hh.2)
          have cc := fun w' (hx : Ext [] w11 w') => copies_o s.list _ s.area (HS11.out.keep hx).blk (HS11.out.keep hx).dev (by simp) (HS11.out.keep hx).sums (fun z hz => by simp [hz]) (by omega) HRt.out ⟨hb1, by omega⟩ HLn.out
          have cq := fun w' (hx : Ext [] w11 w') => StB.cells (HS11.out.keep hx).blk
          generalize copsD s s.area s.list D = C at cc HN
          obtain ⟨E, D9⟩ := C
          unfold lsv at cc
          simp only at cc
          clear hTT hnl
          go_upto_region 13 with fail
          refine wp_region_u [58, 59, 60, 61, 62, 63, 64, 65, 66, 67, 2] [9] (fun n => match n with | 0 => .pointer (some ⟨q, 0, none⟩) | 1 => .pointer (some ⟨q, 0, none⟩) | 2 => .pointer (some ⟨q, 0, none⟩) | 3 => .pointer (some ⟨q, 2, none⟩) | 4 => .int .i64 s.area | 5 => .pointer (some ⟨q, 0, none⟩) | 6 => .pointer (some ⟨q, 0, none⟩) | 7 => .pointer (some ⟨q, 3, none⟩) | 8 => .agg #[.int .i64 s.list.idx, .int .i64 s.list.term, .int .i64 s.list.bytes, .slice sa s.list.sums.length sc] | 10 => .int .i64 E | _ => undef) (fun f v wx => (f 9 = false → Ext [] w11 wx) ∧ (f 9 = true → v 9 = .int .i64 E ∧ DevO w0 wx b D9 (q :: (vblocks (.slice sa s.list.sums.length sc) ++ O))) ∧ Kept (q :: (vblocks (.slice sa s.list.sums.length sc) ++ O)) w11 wx) (by kernel_rfl) (by kernel_rfl) ?hst0_13 ?h00_13 ?hst_13 ?hend_13
          case hst0_13 =>
            rintro f v w w' ⟨j1, j2, j3⟩ hx2
            exact ⟨fun h => (j1 h).then0 hx2, fun h => ⟨(j2 h).1, (j2 h).2.keep hx2⟩, j3.trans (Kept.of hx2)⟩
          case h00_13 =>
            exact ⟨fun _ => Ext.refl _ _, fun h => (by cases h), Kept.refl _ _⟩
          case hst_13 =>
            refine ⟨?f0_13, ?f1_13, ?f2_13, ?f3_13, ?f4_13, ?f5_13, ?f6_13, ?f7_13, ?f8_13, ?f9_13, ?f10_13, trivial⟩
            case f0_13 =>
              intro f v g w' hJ hfi hb hd
              refine arm_u rfl ?_
              refine op_run rfl ?_
              generalize hA : mkAct _ _ g = A
              have h0 : A.tmps[0]?.getD undef = .pointer (some ⟨q, 0, none⟩) := by rw [← hA]; exact mkAct_out2 _ _ _ _ _ rfl rfl
              refine step_val (v := .pointer (some ⟨q, 0, none⟩)) (w' := w') ?_ ⟨rfl, Ext.refl _ _⟩
              simp [execOp, h0, Result.andThen, go_sem]
            case f1_13 =>
              intro f v g w' hJ hfi hb hd
              refine arm_u rfl ?_
              refine op_run rfl ?_
              generalize hA : mkAct _ _ g = A
              have h0 : A.tmps[0]?.getD undef = .pointer (some ⟨q, 0, none⟩) := by rw [← hA]; exact mkAct_out2 _ _ _ _ _ rfl rfl
              refine step_val (v := .pointer (some ⟨q, 0, none⟩)) (w' := w') ?_ ⟨rfl, Ext.refl _ _⟩
              simp [execOp, h0, Result.andThen, go_sem]
            case f2_13 =>
              intro f v g w' hJ hfi hb hd
              refine arm_u rfl ?_
              refine op_run rfl ?_
              have e59 : g 59 = .pointer (some ⟨q, 0, none⟩) := value_u (hd ⟨1, .data⟩ (by simp) rfl) rfl rfl
              generalize hA : mkAct _ _ g = A
              have h59 : A.tmps[59]?.getD undef = .pointer (some ⟨q, 0, none⟩) := by rw [← hA, mkAct_in2 _ _ _ _ rfl rfl]; exact e59
              refine step_val (v := .pointer (some ⟨q, 0, none⟩)) (w' := w') ?_ ⟨rfl, Ext.refl _ _⟩
              simp [execOp, h59, Result.andThen, go_sem]
            case f3_13 =>
              intro f v g w' hJ hfi hb hd
              refine arm_u rfl ?_
              refine op_run rfl ?_
              have e60 : g 60 = .pointer (some ⟨q, 0, none⟩) := value_u (hd ⟨2, .data⟩ (by simp) rfl) rfl rfl
              generalize hA : mkAct _ _ g = A
              have h60 : A.tmps[60]?.getD undef = .pointer (some ⟨q, 0, none⟩) := by rw [← hA, mkAct_in2 _ _ _ _ rfl rfl]; exact e60
              refine step_val (v := .pointer (some ⟨q, 2, none⟩)) (w' := w') ?_ ⟨rfl, Ext.refl _ _⟩
              simp [execOp, h60, Result.andThen, go_sem]
            case f4_13 =>
              intro f v g w' hJ hfi hb hd
              refine arm_u rfl ?_
              refine op_run rfl ?_
              have e61 : g 61 = .pointer (some ⟨q, 2, none⟩) := value_u (hd ⟨3, .data⟩ (by simp) rfl) rfl rfl
              generalize hA : mkAct _ _ g = A
              have h61 : A.tmps[61]?.getD undef = .pointer (some ⟨q, 2, none⟩) := by rw [← hA, mkAct_in2 _ _ _ _ rfl rfl]; exact e61
              have c := (cq w' (hJ.1 (not_yet hb (by kernel_rfl)))).2.2.1
              refine step_val (v := .int .i64 s.area) (w' := w') ?_ ⟨rfl, Ext.refl _ _⟩
              simp [execOp, h61, c, Result.andThen, go_sem]
            case f5_13 =>
              intro f v g w' hJ hfi hb hd
              refine arm_u rfl ?_
              refine op_run rfl ?_
              generalize hA : mkAct _ _ g = A
              have h0 : A.tmps[0]?.getD undef = .pointer (some ⟨q, 0, none⟩) := by rw [← hA]; exact mkAct_out2 _ _ _ _ _ rfl rfl
              refine step_val (v := .pointer (some ⟨q, 0, none⟩)) (w' := w') ?_ ⟨rfl, Ext.refl _ _⟩
              simp [execOp, h0, Result.andThen, go_sem]
            case f6_13 =>
              intro f v g w' hJ hfi hb hd
              refine arm_u rfl ?_
              refine op_run rfl ?_
              have e63 : g 63 = .pointer (some ⟨q, 0, none⟩) := value_u (hd ⟨5, .data⟩ (by simp) rfl) rfl rfl
              generalize hA : mkAct _ _ g = A
              have h63 : A.tmps[63]?.getD undef = .pointer (some ⟨q, 0, none⟩) := by rw [← hA, mkAct_in2 _ _ _ _ rfl rfl]; exact e63
              refine step_val (v := .pointer (some ⟨q, 0, none⟩)) (w' := w') ?_ ⟨rfl, Ext.refl _ _⟩
              simp [execOp, h63, Result.andThen, go_sem]
            case f7_13 =>
              intro f v g w' hJ hfi hb hd
              refine arm_u rfl ?_
              refine op_run rfl ?_
              have e64 : g 64 = .pointer (some ⟨q, 0, none⟩) := value_u (hd ⟨6, .data⟩ (by simp) rfl) rfl rfl
              generalize hA : mkAct _ _ g = A
              have h64 : A.tmps[64]?.getD undef = .pointer (some ⟨q, 0, none⟩) := by rw [← hA, mkAct_in2 _ _ _ _ rfl rfl]; exact e64
              refine step_val (v := .pointer (some ⟨q, 3, none⟩)) (w' := w') ?_ ⟨rfl, Ext.refl _ _⟩
              simp [execOp, h64, Result.andThen, go_sem]
            case f8_13 =>
              intro f v g w' hJ hfi hb hd
              refine arm_u rfl ?_
              refine op_run rfl ?_
              have e65 : g 65 = .pointer (some ⟨q, 3, none⟩) := value_u (hd ⟨7, .data⟩ (by simp) rfl) rfl rfl
              generalize hA : mkAct _ _ g = A
              have h65 : A.tmps[65]?.getD undef = .pointer (some ⟨q, 3, none⟩) := by rw [← hA, mkAct_in2 _ _ _ _ rfl rfl]; exact e65
              obtain ⟨d0, d1, d2, d3⟩ := (cq w' (hJ.1 (not_yet hb (by kernel_rfl)))).2.2.2
              refine step_val (v := .agg #[.int .i64 s.list.idx, .int .i64 s.list.term, .int .i64 s.list.bytes, .slice sa s.list.sums.length sc]) (w' := w') ?_ ⟨rfl, Ext.refl _ _⟩
              simp [execOp, h65, d0, d1, d2, d3, Result.andThen, go_sem]
            case f9_13 =>
              intro f v g w' hJ hfi hb hd
              refine arms_u rfl ?_
              refine op_run rfl ?_
              have e58 : g 58 = .pointer (some ⟨q, 0, none⟩) := value_u (hd ⟨0, .data⟩ (by simp) rfl) rfl rfl
              have e62 : g 62 = .int .i64 s.area := value_u (hd ⟨4, .data⟩ (by simp) rfl) rfl rfl
              have e66 : g 66 = .agg #[.int .i64 s.list.idx, .int .i64 s.list.term, .int .i64 s.list.bytes, .slice sa s.list.sums.length sc] := value_u (hd ⟨8, .data⟩ (by simp) rfl) rfl rfl
              generalize hA : mkAct _ _ g = A
              have h58 : A.tmps[58]?.getD undef = .pointer (some ⟨q, 0, none⟩) := by rw [← hA, mkAct_in2 _ _ _ _ rfl rfl]; exact e58
              have h62 : A.tmps[62]?.getD undef = .int .i64 s.area := by rw [← hA, mkAct_in2 _ _ _ _ rfl rfl]; exact e62
              have h66 : A.tmps[66]?.getD undef = .agg #[.int .i64 s.list.idx, .int .i64 s.list.term, .int .i64 s.list.bytes, .slice sa s.list.sums.length sc] := by rw [← hA, mkAct_in2 _ _ _ _ rfl rfl]; exact e66
              refine mid_u (fun K hK => ?_)
              go_simp
              refine (cc w' (hJ.1 hfi)).mono ?_
              rintro e w2 ⟨rfl, hd2, hk2⟩
              exact hK (.int .i64 E) w2 ⟨fun h => (by cases h), fun _ => ⟨setU_same _ _ _, hd2⟩, hJ.2.2.trans hk2⟩
            case f10_13 =>
              intro f v g w' hJ hfi hb hd
              refine arm_u rfl ?_
              refine op_run rfl ?_
              obtain ⟨hf67, e67⟩ := special_u (hd ⟨9, .data⟩ (by simp) rfl) rfl rfl
              replace e67 : g 67 = v 9 := e67
              have e9x := (hJ.2.1 hf67).1
              rw [e9x] at e67
              generalize hA : mkAct _ _ g = A
              have h67 : A.tmps[67]?.getD undef = .int .i64 E := by rw [← hA, mkAct_in2 _ _ _ _ rfl rfl]; exact e67
              refine step_val (v := .int .i64 E) (w' := w') ?_ ⟨rfl, Ext.refl _ _⟩
              simp [execOp, h67, Result.andThen, go_sem]
          intro f v g wn hJ hk
          have e2_13 : g 2 = .int .i64 E := value_u (hk 10 (by decide)) rfl rfl
          obtain ⟨-, j2, j3⟩ := hJ
          have HD9 := Hid.of (j2 ((hk 9 (by decide)).2 rfl).1).2
          have HK9 := Hid.of j3
          clear hk j2 j3 cc cq
          unfold mkAct; simp only [List.zipIdx_cons, List.zipIdx_nil, List.map_cons, List.map_nil, Nat.zero_add, Nat.reduceAdd, List.contains_cons, List.contains_nil, Nat.reduceBEq, Bool.or_false, Bool.or_true, ↓reduceIte, Bool.false_eq_true]
          rw [e2_13]
          go_wp2
          go_ret
          obtain ⟨hs9, hk9⟩ := HS11.out.devt HD9.out HK9.out
          rw [HN.out]
          exact ⟨rfl, hs9, (Kept.of HX11.out).trans hk9⟩
theorem StM.scrub7 (h : StM w0 w q b sv D s n0 O) (hf : Fine D n0 V 0) :
    Calls Try.prog 32 #[.pointer (some ⟨q, 0, none⟩)] w fun e w' => e = .returned (.int .i64 (scrubX s V D).1) ∧ StM w0 w' q b sv (scrubX s V D).2 s n0 O ∧ Kept O w w' := by
  by_cases har : s.area < 0
  · have e : scrubX s V D = (0, D) := if_pos har
    rw [e]
    have c2 := h.blk.cells.2.2.1
    have e2 : decide (s.area < 0) = true := decide_eq_true har
    have H := Hid.of h
    clear h hf e har
    go_enter Try.func32, Try.ntmps32
    go_wp2
    go_ret
    exact ⟨rfl, H.out, Kept.refl _ _⟩
  · exact scrub_go h hf har
end
end Go.Proofs.Ytlnfigbcdmfmdaa
