/- Package chunk: Mend. (Printed by wip/gen_mend7.py.) -/
import Derived.Test.YtlnfigbcdmfmdaaChkq
namespace Go.Proofs.Ytlnfigbcdmfmdaa
open Go.RowKit
set_option linter.unusedVariables false
set_option linter.unusedSimpArgs false

/-- A piece that mends: of the checksum and of the length that the list says. -/
def mendOk (s : Sto) (k : Int) (d : List UInt8) : Prop := ¬ (s.area < 0 ∨ k < 0 ∨ (s.list.sums.length : Int) ≤ k) ∧ sumOf d = s.list.sums.getD k.toNat 0 ∧ (d.length : Int) = min 400 (s.list.bytes - k * 400)
instance (s : Sto) (k : Int) (d : List UInt8) : Decidable (mendOk s k d) := inferInstanceAs (Decidable (_ ∧ _))
def mendW (s : Sto) (k : Int) (d : List UInt8) : Int × Rc := (s.b s.area (2 + k), ⟨5, s.list.idx, k, d⟩)
def mendX (s : Sto) (k : Int) (d : List UInt8) (D : Dv) : Int × Dv := if mendOk s k d then wrf [mendW s k d] D else (1, D)
set_option maxRecDepth 100000 in
set_option maxHeartbeats 6400000 in
theorem mend_nil (k : Int) (d : List UInt8) (w : World) : Calls Try.prog 19 #[.pointer none, .int .i64 k, str d] w fun e w' => e = .returned (.int .i64 1) ∧ Ext [] w w' := by
  go_enter Try.func19, Try.ntmps19
  go_upto_region 1 with fail
  refine wp_region_u [8, 9, 10, 11, 12, 13, 14, 15, 16, 17, 18, 19, 20, 21, 22, 23, 24, 25, 26, 27, 28, 29, 30, 31, 32, 33, 34, 35, 36, 37, 38, 39, 40, 41, 42, 43, 44, 45, 46, 47, 48, 49, 50, 51, 52, 53, 54, 55, 56, 57, 58] [] (fun n => match n with | 0 => .pointer none | 1 => .bool true | 2 => .bool true | 3 => undef | 4 => undef | 5 => undef | 6 => undef | 7 => undef | 8 => .bool true | 9 => .bool true | 10 => undef | 11 => undef | 12 => .bool true | 13 => .bool true | 14 => undef | 15 => undef | 16 => undef | 17 => undef | 18 => undef | 19 => undef | 20 => undef | 21 => undef | 22 => .bool true | 23 => .bool true | 24 => undef | 25 => undef | 26 => undef | 27 => undef | 28 => undef | 29 => undef | 30 => undef | 31 => undef | 32 => undef | 33 => undef | 34 => undef | 35 => undef | 36 => .bool true | 37 => .bool true | 38 => undef | 39 => undef | 40 => undef | 41 => undef | 42 => undef | 43 => undef | 44 => undef | 45 => undef | 46 => undef | 47 => undef | 48 => undef | 49 => undef | 50 => .bool true | _ => undef) (fun f v wx => Ext [] w wx) (by kernel_rfl) (by kernel_rfl) ?hst0_1nil ?h00_1nil ?hst_1nil ?hend_1nil
  case hst0_1nil =>
    exact fun f v w w' h hx => h.then0 hx
  case h00_1nil =>
    exact Ext.refl _ _
  case hst_1nil =>
    refine ⟨?f0_1nil, ?f1_1nil, ?f2_1nil, ?f3_1nil, ?f4_1nil, ?f5_1nil, ?f6_1nil, ?f7_1nil, ?f8_1nil, ?f9_1nil, ?f10_1nil, ?f11_1nil, ?f12_1nil, ?f13_1nil, ?f14_1nil, ?f15_1nil, ?f16_1nil, ?f17_1nil, ?f18_1nil, ?f19_1nil, ?f20_1nil, ?f21_1nil, ?f22_1nil, ?f23_1nil, ?f24_1nil, ?f25_1nil, ?f26_1nil, ?f27_1nil, ?f28_1nil, ?f29_1nil, ?f30_1nil, ?f31_1nil, ?f32_1nil, ?f33_1nil, ?f34_1nil, ?f35_1nil, ?f36_1nil, ?f37_1nil, ?f38_1nil, ?f39_1nil, ?f40_1nil, ?f41_1nil, ?f42_1nil, ?f43_1nil, ?f44_1nil, ?f45_1nil, ?f46_1nil, ?f47_1nil, ?f48_1nil, ?f49_1nil, ?f50_1nil, trivial⟩
    case f0_1nil =>
      intro f v g w' hJ hfi hb hd
      refine arm_u rfl ?_
      refine op_run rfl ?_
      generalize hA : mkAct _ _ g = A
      have h0 : A.tmps[0]?.getD undef = .pointer none := by rw [← hA]; exact mkAct_out2 _ _ _ _ _ rfl rfl
      refine step_val (v := .pointer none) (w' := w') ?_ ⟨rfl, Ext.refl _ _⟩
      simp [execOp, h0, Result.andThen, go_sem]
    case f1_1nil =>
      intro f v g w' hJ hfi hb hd
      refine arm_u rfl ?_
      refine op_run rfl ?_
      have e8 : g 8 = .pointer none := value_u (hd ⟨0, .data⟩ (by simp) rfl) rfl rfl
      generalize hA : mkAct _ _ g = A
      have h8 : A.tmps[8]?.getD undef = .pointer none := by rw [← hA, mkAct_in2 _ _ _ _ rfl rfl]; exact e8
      refine step_val (v := .bool true) (w' := w') ?_ ⟨rfl, Ext.refl _ _⟩
      simp [execOp, h8, Result.andThen, go_sem]
    case f2_1nil =>
      intro f v g w' hJ hfi hb hd
      refine arm_u rfl ?_
      refine op_run rfl ?_
      have e9 : g 9 = .bool true := value_u (hd ⟨1, .data⟩ (by simp) rfl) rfl rfl
      generalize hA : mkAct _ _ g = A
      have h9 : A.tmps[9]?.getD undef = .bool true := by rw [← hA, mkAct_in2 _ _ _ _ rfl rfl]; exact e9
      refine step_val (v := .bool true) (w' := w') ?_ ⟨rfl, Ext.refl _ _⟩
      simp [execOp, h9, Result.andThen, go_sem]
    case f3_1nil =>
      intro f v g w' hJ hfi hb hd
      refine arm_u rfl ?_
      have eg : g 10 = .bool true := value_u (hd ⟨2, .guard⟩ (by simp) rfl) rfl rfl
      exact op_no rfl rfl rfl rfl true eg (by decide) ⟨rfl, Ext.refl _ _⟩
    case f4_1nil =>
      intro f v g w' hJ hfi hb hd
      refine arm_u rfl ?_
      have eg : g 10 = .bool true := value_u (hd ⟨2, .guard⟩ (by simp) rfl) rfl rfl
      exact op_no rfl rfl rfl rfl true eg (by decide) ⟨rfl, Ext.refl _ _⟩
    case f5_1nil =>
      intro f v g w' hJ hfi hb hd
      refine arm_u rfl ?_
      have eg : g 10 = .bool true := value_u (hd ⟨2, .guard⟩ (by simp) rfl) rfl rfl
      exact op_no rfl rfl rfl rfl true eg (by decide) ⟨rfl, Ext.refl _ _⟩
    case f6_1nil =>
      intro f v g w' hJ hfi hb hd
      refine arm_u rfl ?_
      have eg : g 10 = .bool true := value_u (hd ⟨2, .guard⟩ (by simp) rfl) rfl rfl
      exact op_no rfl rfl rfl rfl true eg (by decide) ⟨rfl, Ext.refl _ _⟩
    case f7_1nil =>
      intro f v g w' hJ hfi hb hd
      refine arm_u rfl ?_
      have eg : g 10 = .bool true := value_u (hd ⟨2, .guard⟩ (by simp) rfl) rfl rfl
      exact op_no rfl rfl rfl rfl true eg (by decide) ⟨rfl, Ext.refl _ _⟩
    case f8_1nil =>
      intro f v g w' hJ hfi hb hd
      refine arm_u rfl ?_
      refine op_run rfl ?_
      have e10 : g 10 = .bool true := value_u (hd ⟨2, .data⟩ (by simp) rfl) rfl rfl
      have e15 : g 15 = undef := value_u (hd ⟨7, .data⟩ (by simp) rfl) rfl rfl
      generalize hA : mkAct _ _ g = A
      have h10 : A.tmps[10]?.getD undef = .bool true := by rw [← hA, mkAct_in2 _ _ _ _ rfl rfl]; exact e10
      have h15 : A.tmps[15]?.getD undef = undef := by rw [← hA, mkAct_in2 _ _ _ _ rfl rfl]; exact e15
      refine step_val (v := .bool true) (w' := w') ?_ ⟨rfl, Ext.refl _ _⟩
      simp [execOp, h10, h15, Result.andThen, go_sem]
    case f9_1nil =>
      intro f v g w' hJ hfi hb hd
      refine arm_u rfl ?_
      refine op_run rfl ?_
      have e16 : g 16 = .bool true := value_u (hd ⟨8, .data⟩ (by simp) rfl) rfl rfl
      generalize hA : mkAct _ _ g = A
      have h16 : A.tmps[16]?.getD undef = .bool true := by rw [← hA, mkAct_in2 _ _ _ _ rfl rfl]; exact e16
      refine step_val (v := .bool true) (w' := w') ?_ ⟨rfl, Ext.refl _ _⟩
      simp [execOp, h16, Result.andThen, go_sem]
    case f10_1nil =>
      intro f v g w' hJ hfi hb hd
      refine arm_u rfl ?_
      have eg : g 17 = .bool true := value_u (hd ⟨9, .guard⟩ (by simp) rfl) rfl rfl
      exact op_no rfl rfl rfl rfl true eg (by decide) ⟨rfl, Ext.refl _ _⟩
    case f11_1nil =>
      intro f v g w' hJ hfi hb hd
      refine arm_u rfl ?_
      have eg : g 17 = .bool true := value_u (hd ⟨9, .guard⟩ (by simp) rfl) rfl rfl
      exact op_no rfl rfl rfl rfl true eg (by decide) ⟨rfl, Ext.refl _ _⟩
    case f12_1nil =>
      intro f v g w' hJ hfi hb hd
      refine arm_u rfl ?_
      refine op_run rfl ?_
      have e17 : g 17 = .bool true := value_u (hd ⟨9, .data⟩ (by simp) rfl) rfl rfl
      have e19 : g 19 = undef := value_u (hd ⟨11, .data⟩ (by simp) rfl) rfl rfl
      generalize hA : mkAct _ _ g = A
      have h17 : A.tmps[17]?.getD undef = .bool true := by rw [← hA, mkAct_in2 _ _ _ _ rfl rfl]; exact e17
      have h19 : A.tmps[19]?.getD undef = undef := by rw [← hA, mkAct_in2 _ _ _ _ rfl rfl]; exact e19
      refine step_val (v := .bool true) (w' := w') ?_ ⟨rfl, Ext.refl _ _⟩
      simp [execOp, h17, h19, Result.andThen, go_sem]
    case f13_1nil =>
      intro f v g w' hJ hfi hb hd
      refine arm_u rfl ?_
      refine op_run rfl ?_
      have e20 : g 20 = .bool true := value_u (hd ⟨12, .data⟩ (by simp) rfl) rfl rfl
      generalize hA : mkAct _ _ g = A
      have h20 : A.tmps[20]?.getD undef = .bool true := by rw [← hA, mkAct_in2 _ _ _ _ rfl rfl]; exact e20
      refine step_val (v := .bool true) (w' := w') ?_ ⟨rfl, Ext.refl _ _⟩
      simp [execOp, h20, Result.andThen, go_sem]
    case f14_1nil =>
      intro f v g w' hJ hfi hb hd
      refine arm_u rfl ?_
      have eg : g 21 = .bool true := value_u (hd ⟨13, .guard⟩ (by simp) rfl) rfl rfl
      exact op_no rfl rfl rfl rfl true eg (by decide) ⟨rfl, Ext.refl _ _⟩
    case f15_1nil =>
      intro f v g w' hJ hfi hb hd
      refine arm_u rfl ?_
      have eg : g 21 = .bool true := value_u (hd ⟨13, .guard⟩ (by simp) rfl) rfl rfl
      exact op_no rfl rfl rfl rfl true eg (by decide) ⟨rfl, Ext.refl _ _⟩
    case f16_1nil =>
      intro f v g w' hJ hfi hb hd
      refine arm_u rfl ?_
      have eg : g 21 = .bool true := value_u (hd ⟨13, .guard⟩ (by simp) rfl) rfl rfl
      exact op_no rfl rfl rfl rfl true eg (by decide) ⟨rfl, Ext.refl _ _⟩
    case f17_1nil =>
      intro f v g w' hJ hfi hb hd
      refine arm_u rfl ?_
      have eg : g 21 = .bool true := value_u (hd ⟨13, .guard⟩ (by simp) rfl) rfl rfl
      exact op_no rfl rfl rfl rfl true eg (by decide) ⟨rfl, Ext.refl _ _⟩
    case f18_1nil =>
      intro f v g w' hJ hfi hb hd
      refine arm_u rfl ?_
      have eg : g 21 = .bool true := value_u (hd ⟨13, .guard⟩ (by simp) rfl) rfl rfl
      exact op_no rfl rfl rfl rfl true eg (by decide) ⟨rfl, Ext.refl _ _⟩
    case f19_1nil =>
      intro f v g w' hJ hfi hb hd
      refine arm_u rfl ?_
      have eg : g 21 = .bool true := value_u (hd ⟨13, .guard⟩ (by simp) rfl) rfl rfl
      exact op_no rfl rfl rfl rfl true eg (by decide) ⟨rfl, Ext.refl _ _⟩
    case f20_1nil =>
      intro f v g w' hJ hfi hb hd
      refine arm_u rfl ?_
      have eg : g 21 = .bool true := value_u (hd ⟨13, .guard⟩ (by simp) rfl) rfl rfl
      exact op_no rfl rfl rfl rfl true eg (by decide) ⟨rfl, Ext.refl _ _⟩
    case f21_1nil =>
      intro f v g w' hJ hfi hb hd
      refine arm_u rfl ?_
      have eg : g 21 = .bool true := value_u (hd ⟨13, .guard⟩ (by simp) rfl) rfl rfl
      exact op_no rfl rfl rfl rfl true eg (by decide) ⟨rfl, Ext.refl _ _⟩
    case f22_1nil =>
      intro f v g w' hJ hfi hb hd
      refine arm_u rfl ?_
      refine op_run rfl ?_
      have e21 : g 21 = .bool true := value_u (hd ⟨13, .data⟩ (by simp) rfl) rfl rfl
      have e29 : g 29 = undef := value_u (hd ⟨21, .data⟩ (by simp) rfl) rfl rfl
      generalize hA : mkAct _ _ g = A
      have h21 : A.tmps[21]?.getD undef = .bool true := by rw [← hA, mkAct_in2 _ _ _ _ rfl rfl]; exact e21
      have h29 : A.tmps[29]?.getD undef = undef := by rw [← hA, mkAct_in2 _ _ _ _ rfl rfl]; exact e29
      refine step_val (v := .bool true) (w' := w') ?_ ⟨rfl, Ext.refl _ _⟩
      simp [execOp, h21, h29, Result.andThen, go_sem]
    case f23_1nil =>
      intro f v g w' hJ hfi hb hd
      refine arm_u rfl ?_
      refine op_run rfl ?_
      have e30 : g 30 = .bool true := value_u (hd ⟨22, .data⟩ (by simp) rfl) rfl rfl
      generalize hA : mkAct _ _ g = A
      have h30 : A.tmps[30]?.getD undef = .bool true := by rw [← hA, mkAct_in2 _ _ _ _ rfl rfl]; exact e30
      refine step_val (v := .bool true) (w' := w') ?_ ⟨rfl, Ext.refl _ _⟩
      simp [execOp, h30, Result.andThen, go_sem]
    case f24_1nil =>
      intro f v g w' hJ hfi hb hd
      refine arm_u rfl ?_
      have eg : g 31 = .bool true := value_u (hd ⟨23, .guard⟩ (by simp) rfl) rfl rfl
      exact op_no rfl rfl rfl rfl true eg (by decide) ⟨rfl, Ext.refl _ _⟩
    case f25_1nil =>
      intro f v g w' hJ hfi hb hd
      refine arm_u rfl ?_
      have eg : g 31 = .bool true := value_u (hd ⟨23, .guard⟩ (by simp) rfl) rfl rfl
      exact op_no rfl rfl rfl rfl true eg (by decide) ⟨rfl, Ext.refl _ _⟩
    case f26_1nil =>
      intro f v g w' hJ hfi hb hd
      refine arm_u rfl ?_
      have eg : g 31 = .bool true := value_u (hd ⟨23, .guard⟩ (by simp) rfl) rfl rfl
      exact op_no rfl rfl rfl rfl true eg (by decide) ⟨rfl, Ext.refl _ _⟩
    case f27_1nil =>
      intro f v g w' hJ hfi hb hd
      refine arm_u rfl ?_
      have eg : g 31 = .bool true := value_u (hd ⟨23, .guard⟩ (by simp) rfl) rfl rfl
      exact op_no rfl rfl rfl rfl true eg (by decide) ⟨rfl, Ext.refl _ _⟩
    case f28_1nil =>
      intro f v g w' hJ hfi hb hd
      refine arm_u rfl ?_
      have eg : g 31 = .bool true := value_u (hd ⟨23, .guard⟩ (by simp) rfl) rfl rfl
      exact op_no rfl rfl rfl rfl true eg (by decide) ⟨rfl, Ext.refl _ _⟩
    case f29_1nil =>
      intro f v g w' hJ hfi hb hd
      refine arm_u rfl ?_
      have eg : g 31 = .bool true := value_u (hd ⟨23, .guard⟩ (by simp) rfl) rfl rfl
      exact op_no rfl rfl rfl rfl true eg (by decide) ⟨rfl, Ext.refl _ _⟩
    case f30_1nil =>
      intro f v g w' hJ hfi hb hd
      refine arm_u rfl ?_
      have eg : g 31 = .bool true := value_u (hd ⟨23, .guard⟩ (by simp) rfl) rfl rfl
      exact op_no rfl rfl rfl rfl true eg (by decide) ⟨rfl, Ext.refl _ _⟩
    case f31_1nil =>
      intro f v g w' hJ hfi hb hd
      refine arm_u rfl ?_
      have eg : g 31 = .bool true := value_u (hd ⟨23, .guard⟩ (by simp) rfl) rfl rfl
      exact op_no rfl rfl rfl rfl true eg (by decide) ⟨rfl, Ext.refl _ _⟩
    case f32_1nil =>
      intro f v g w' hJ hfi hb hd
      refine arm_u rfl ?_
      have eg : g 31 = .bool true := value_u (hd ⟨23, .guard⟩ (by simp) rfl) rfl rfl
      exact op_no rfl rfl rfl rfl true eg (by decide) ⟨rfl, Ext.refl _ _⟩
    case f33_1nil =>
      intro f v g w' hJ hfi hb hd
      refine arm_u rfl ?_
      have eg : g 31 = .bool true := value_u (hd ⟨23, .guard⟩ (by simp) rfl) rfl rfl
      exact op_no rfl rfl rfl rfl true eg (by decide) ⟨rfl, Ext.refl _ _⟩
    case f34_1nil =>
      intro f v g w' hJ hfi hb hd
      refine arm_u rfl ?_
      have eg : g 31 = .bool true := value_u (hd ⟨23, .guard⟩ (by simp) rfl) rfl rfl
      exact op_no rfl rfl rfl rfl true eg (by decide) ⟨rfl, Ext.refl _ _⟩
    case f35_1nil =>
      intro f v g w' hJ hfi hb hd
      refine arm_u rfl ?_
      have eg : g 31 = .bool true := value_u (hd ⟨23, .guard⟩ (by simp) rfl) rfl rfl
      exact op_no rfl rfl rfl rfl true eg (by decide) ⟨rfl, Ext.refl _ _⟩
    case f36_1nil =>
      intro f v g w' hJ hfi hb hd
      refine arm_u rfl ?_
      refine op_run rfl ?_
      have e31 : g 31 = .bool true := value_u (hd ⟨23, .data⟩ (by simp) rfl) rfl rfl
      have e43 : g 43 = undef := value_u (hd ⟨35, .data⟩ (by simp) rfl) rfl rfl
      generalize hA : mkAct _ _ g = A
      have h31 : A.tmps[31]?.getD undef = .bool true := by rw [← hA, mkAct_in2 _ _ _ _ rfl rfl]; exact e31
      have h43 : A.tmps[43]?.getD undef = undef := by rw [← hA, mkAct_in2 _ _ _ _ rfl rfl]; exact e43
      refine step_val (v := .bool true) (w' := w') ?_ ⟨rfl, Ext.refl _ _⟩
      simp [execOp, h31, h43, Result.andThen, go_sem]
    case f37_1nil =>
      intro f v g w' hJ hfi hb hd
      refine arm_u rfl ?_
      refine op_run rfl ?_
      have e44 : g 44 = .bool true := value_u (hd ⟨36, .data⟩ (by simp) rfl) rfl rfl
      generalize hA : mkAct _ _ g = A
      have h44 : A.tmps[44]?.getD undef = .bool true := by rw [← hA, mkAct_in2 _ _ _ _ rfl rfl]; exact e44
      refine step_val (v := .bool true) (w' := w') ?_ ⟨rfl, Ext.refl _ _⟩
      simp [execOp, h44, Result.andThen, go_sem]
    case f38_1nil =>
      intro f v g w' hJ hfi hb hd
      refine arm_u rfl ?_
      have eg : g 45 = .bool true := value_u (hd ⟨37, .guard⟩ (by simp) rfl) rfl rfl
      exact op_no rfl rfl rfl rfl true eg (by decide) ⟨rfl, Ext.refl _ _⟩
    case f39_1nil =>
      intro f v g w' hJ hfi hb hd
      refine arm_u rfl ?_
      have eg : g 45 = .bool true := value_u (hd ⟨37, .guard⟩ (by simp) rfl) rfl rfl
      exact op_no rfl rfl rfl rfl true eg (by decide) ⟨rfl, Ext.refl _ _⟩
    case f40_1nil =>
      intro f v g w' hJ hfi hb hd
      refine arm_u rfl ?_
      have eg : g 45 = .bool true := value_u (hd ⟨37, .guard⟩ (by simp) rfl) rfl rfl
      exact op_no rfl rfl rfl rfl true eg (by decide) ⟨rfl, Ext.refl _ _⟩
    case f41_1nil =>
      intro f v g w' hJ hfi hb hd
      refine arm_u rfl ?_
      have eg : g 45 = .bool true := value_u (hd ⟨37, .guard⟩ (by simp) rfl) rfl rfl
      exact op_no rfl rfl rfl rfl true eg (by decide) ⟨rfl, Ext.refl _ _⟩
    case f42_1nil =>
      intro f v g w' hJ hfi hb hd
      refine arm_u rfl ?_
      have eg : g 45 = .bool true := value_u (hd ⟨37, .guard⟩ (by simp) rfl) rfl rfl
      exact op_no rfl rfl rfl rfl true eg (by decide) ⟨rfl, Ext.refl _ _⟩
    case f43_1nil =>
      intro f v g w' hJ hfi hb hd
      refine arm_u rfl ?_
      have eg : g 45 = .bool true := value_u (hd ⟨37, .guard⟩ (by simp) rfl) rfl rfl
      exact op_no rfl rfl rfl rfl true eg (by decide) ⟨rfl, Ext.refl _ _⟩
    case f44_1nil =>
      intro f v g w' hJ hfi hb hd
      refine arm_u rfl ?_
      have eg : g 45 = .bool true := value_u (hd ⟨37, .guard⟩ (by simp) rfl) rfl rfl
      exact op_no rfl rfl rfl rfl true eg (by decide) ⟨rfl, Ext.refl _ _⟩
    case f45_1nil =>
      intro f v g w' hJ hfi hb hd
      refine arm_u rfl ?_
      have eg : g 45 = .bool true := value_u (hd ⟨37, .guard⟩ (by simp) rfl) rfl rfl
      exact op_no rfl rfl rfl rfl true eg (by decide) ⟨rfl, Ext.refl _ _⟩
    case f46_1nil =>
      intro f v g w' hJ hfi hb hd
      refine arm_u rfl ?_
      have eg : g 45 = .bool true := value_u (hd ⟨37, .guard⟩ (by simp) rfl) rfl rfl
      exact op_no rfl rfl rfl rfl true eg (by decide) ⟨rfl, Ext.refl _ _⟩
    case f47_1nil =>
      intro f v g w' hJ hfi hb hd
      refine arm_u rfl ?_
      have eg : g 45 = .bool true := value_u (hd ⟨37, .guard⟩ (by simp) rfl) rfl rfl
      exact op_no rfl rfl rfl rfl true eg (by decide) ⟨rfl, Ext.refl _ _⟩
    case f48_1nil =>
      intro f v g w' hJ hfi hb hd
      refine arm_u rfl ?_
      have eg : g 45 = .bool true := value_u (hd ⟨37, .guard⟩ (by simp) rfl) rfl rfl
      exact op_no rfl rfl rfl rfl true eg (by decide) ⟨rfl, Ext.refl _ _⟩
    case f49_1nil =>
      intro f v g w' hJ hfi hb hd
      refine arm_u rfl ?_
      have eg : g 45 = .bool true := value_u (hd ⟨37, .guard⟩ (by simp) rfl) rfl rfl
      exact op_no rfl rfl rfl rfl true eg (by decide) ⟨rfl, Ext.refl _ _⟩
    case f50_1nil =>
      intro f v g w' hJ hfi hb hd
      refine arm_u rfl ?_
      refine op_run rfl ?_
      have e45 : g 45 = .bool true := value_u (hd ⟨37, .data⟩ (by simp) rfl) rfl rfl
      have e57 : g 57 = undef := value_u (hd ⟨49, .data⟩ (by simp) rfl) rfl rfl
      generalize hA : mkAct _ _ g = A
      have h45 : A.tmps[45]?.getD undef = .bool true := by rw [← hA, mkAct_in2 _ _ _ _ rfl rfl]; exact e45
      have h57 : A.tmps[57]?.getD undef = undef := by rw [← hA, mkAct_in2 _ _ _ _ rfl rfl]; exact e57
      refine step_val (v := .bool true) (w' := w') ?_ ⟨rfl, Ext.refl _ _⟩
      simp [execOp, h45, h57, Result.andThen, go_sem]
  intro f v g wn hJ hk
  have e58 : g 58 = .bool true := value_u (hk 50 (by decide)) rfl rfl
  clear hk
  unfold mkAct; simp only [List.zipIdx_cons, List.zipIdx_nil, List.map_cons, List.map_nil, Nat.zero_add, Nat.reduceAdd, List.contains_cons, List.contains_nil, Nat.reduceBEq, Bool.or_false, Bool.or_true, ↓reduceIte, Bool.false_eq_true]
  rw [e58]
  go_wp2
  go_ret
  exact ⟨rfl, hJ⟩
section
variable {w0 w : World} {q b : Nat} {sv : Value} {D : Dv} {s : Sto} {n0 : Int} {O : List Nat}
set_option maxRecDepth 100000 in
set_option maxHeartbeats 12800000 in
theorem mend_out (h : StM w0 w q b sv D s n0 O) (k : Int) (d : List UInt8) (hk : s.area < 0 ∨ k < 0 ∨ (s.list.sums.length : Int) ≤ k) :
    Calls Try.prog 19 #[.pointer (some ⟨q, 0, none⟩), .int .i64 k, str d] w fun e w' => e = .returned (.int .i64 1) ∧ Ext [] w w' := by
  obtain ⟨sa, sc, rfl⟩ := Rd.isSlice h.sums
  have cq := fun w' (hx : Ext [] w w') => StB.cells (Blk.keep h.blk hx (by simp) : StB w' q b _ s)
  have hlen := h.ok.len
  generalize s.list.sums.length = m at cq hk hlen
  generalize s.area = ar at cq hk
  clear h
  by_cases h1 : ar < 0
  · have e1 : decide (ar < 0) = true := decide_eq_true h1
    clear hk
    go_enter Try.func19, Try.ntmps19
    go_upto_region 1 with fail
    refine wp_region_u [8, 9, 10, 11, 12, 13, 14, 15, 16, 17, 18, 19, 20, 21, 22, 23, 24, 25, 26, 27, 28, 29, 30, 31, 32, 33, 34, 35, 36, 37, 38, 39, 40, 41, 42, 43, 44, 45, 46, 47, 48, 49, 50, 51, 52, 53, 54, 55, 56, 57, 58] [] (fun n => match n with | 0 => .pointer (some ⟨q, 0, none⟩) | 1 => .bool false | 2 => .bool false | 3 => .pointer (some ⟨q, 0, none⟩) | 4 => .pointer (some ⟨q, 0, none⟩) | 5 => .pointer (some ⟨q, 2, none⟩) | 6 => .int .i64 ar | 7 => .bool true | 8 => .bool true | 9 => .bool true | 10 => undef | 11 => undef | 12 => .bool true | 13 => .bool true | 14 => undef | 15 => undef | 16 => undef | 17 => undef | 18 => undef | 19 => undef | 20 => undef | 21 => undef | 22 => .bool true | 23 => .bool true | 24 => undef | 25 => undef | 26 => undef | 27 => undef | 28 => undef | 29 => undef | 30 => undef | 31 => undef | 32 => undef | 33 => undef | 34 => undef | 35 => undef | 36 => .bool true | 37 => .bool true | 38 => undef | 39 => undef | 40 => undef | 41 => undef | 42 => undef | 43 => undef | 44 => undef | 45 => undef | 46 => undef | 47 => undef | 48 => undef | 49 => undef | 50 => .bool true | _ => undef) (fun f v wx => Ext [] w wx) (by kernel_rfl) (by kernel_rfl) ?hst0_1a ?h00_1a ?hst_1a ?hend_1a
    case hst0_1a =>
      exact fun f v w w' h hx => h.then0 hx
    case h00_1a =>
      exact Ext.refl _ _
    case hst_1a =>
      refine ⟨?f0_1a, ?f1_1a, ?f2_1a, ?f3_1a, ?f4_1a, ?f5_1a, ?f6_1a, ?f7_1a, ?f8_1a, ?f9_1a, ?f10_1a, ?f11_1a, ?f12_1a, ?f13_1a, ?f14_1a, ?f15_1a, ?f16_1a, ?f17_1a, ?f18_1a, ?f19_1a, ?f20_1a, ?f21_1a, ?f22_1a, ?f23_1a, ?f24_1a, ?f25_1a, ?f26_1a, ?f27_1a, ?f28_1a, ?f29_1a, ?f30_1a, ?f31_1a, ?f32_1a, ?f33_1a, ?f34_1a, ?f35_1a, ?f36_1a, ?f37_1a, ?f38_1a, ?f39_1a, ?f40_1a, ?f41_1a, ?f42_1a, ?f43_1a, ?f44_1a, ?f45_1a, ?f46_1a, ?f47_1a, ?f48_1a, ?f49_1a, ?f50_1a, trivial⟩
      case f0_1a =>
        intro f v g w' hJ hfi hb hd
        refine arm_u rfl ?_
        refine op_run rfl ?_
        generalize hA : mkAct _ _ g = A
        have h0 : A.tmps[0]?.getD undef = .pointer (some ⟨q, 0, none⟩) := by rw [← hA]; exact mkAct_out2 _ _ _ _ _ rfl rfl
        refine step_val (v := .pointer (some ⟨q, 0, none⟩)) (w' := w') ?_ ⟨rfl, Ext.refl _ _⟩
        simp [execOp, h0, Result.andThen, go_sem]
      case f1_1a =>
        intro f v g w' hJ hfi hb hd
        refine arm_u rfl ?_
        refine op_run rfl ?_
        have e8 : g 8 = .pointer (some ⟨q, 0, none⟩) := value_u (hd ⟨0, .data⟩ (by simp) rfl) rfl rfl
        generalize hA : mkAct _ _ g = A
        have h8 : A.tmps[8]?.getD undef = .pointer (some ⟨q, 0, none⟩) := by rw [← hA, mkAct_in2 _ _ _ _ rfl rfl]; exact e8
        refine step_val (v := .bool false) (w' := w') ?_ ⟨rfl, Ext.refl _ _⟩
        simp [execOp, h8, Result.andThen, go_sem]
      case f2_1a =>
        intro f v g w' hJ hfi hb hd
        refine arm_u rfl ?_
        refine op_run rfl ?_
        have e9 : g 9 = .bool false := value_u (hd ⟨1, .data⟩ (by simp) rfl) rfl rfl
        generalize hA : mkAct _ _ g = A
        have h9 : A.tmps[9]?.getD undef = .bool false := by rw [← hA, mkAct_in2 _ _ _ _ rfl rfl]; exact e9
        refine step_val (v := .bool false) (w' := w') ?_ ⟨rfl, Ext.refl _ _⟩
        simp [execOp, h9, Result.andThen, go_sem]
      case f3_1a =>
        intro f v g w' hJ hfi hb hd
        refine arm_u rfl ?_
        have eg : g 10 = .bool false := value_u (hd ⟨2, .guard⟩ (by simp) rfl) rfl rfl
        refine op_yes rfl rfl rfl rfl eg ?_
        generalize hA : mkAct _ _ g = A
        have h0 : A.tmps[0]?.getD undef = .pointer (some ⟨q, 0, none⟩) := by rw [← hA]; exact mkAct_out2 _ _ _ _ _ rfl rfl
        refine step_val (v := .pointer (some ⟨q, 0, none⟩)) (w' := w') ?_ ⟨rfl, Ext.refl _ _⟩
        simp [execOp, h0, Result.andThen, go_sem]
      case f4_1a =>
        intro f v g w' hJ hfi hb hd
        refine arm_u rfl ?_
        have eg : g 10 = .bool false := value_u (hd ⟨2, .guard⟩ (by simp) rfl) rfl rfl
        refine op_yes rfl rfl rfl rfl eg ?_
        have e11 : g 11 = .pointer (some ⟨q, 0, none⟩) := value_u (hd ⟨3, .data⟩ (by simp) rfl) rfl rfl
        generalize hA : mkAct _ _ g = A
        have h11 : A.tmps[11]?.getD undef = .pointer (some ⟨q, 0, none⟩) := by rw [← hA, mkAct_in2 _ _ _ _ rfl rfl]; exact e11
        refine step_val (v := .pointer (some ⟨q, 0, none⟩)) (w' := w') ?_ ⟨rfl, Ext.refl _ _⟩
        simp [execOp, h11, Result.andThen, go_sem]
      case f5_1a =>
        intro f v g w' hJ hfi hb hd
        refine arm_u rfl ?_
        have eg : g 10 = .bool false := value_u (hd ⟨2, .guard⟩ (by simp) rfl) rfl rfl
        refine op_yes rfl rfl rfl rfl eg ?_
        have e12 : g 12 = .pointer (some ⟨q, 0, none⟩) := value_u (hd ⟨4, .data⟩ (by simp) rfl) rfl rfl
        generalize hA : mkAct _ _ g = A
        have h12 : A.tmps[12]?.getD undef = .pointer (some ⟨q, 0, none⟩) := by rw [← hA, mkAct_in2 _ _ _ _ rfl rfl]; exact e12
        refine step_val (v := .pointer (some ⟨q, 2, none⟩)) (w' := w') ?_ ⟨rfl, Ext.refl _ _⟩
        simp [execOp, h12, Result.andThen, go_sem]
      case f6_1a =>
        intro f v g w' hJ hfi hb hd
        refine arm_u rfl ?_
        have eg : g 10 = .bool false := value_u (hd ⟨2, .guard⟩ (by simp) rfl) rfl rfl
        refine op_yes rfl rfl rfl rfl eg ?_
        have e13 : g 13 = .pointer (some ⟨q, 2, none⟩) := value_u (hd ⟨5, .data⟩ (by simp) rfl) rfl rfl
        generalize hA : mkAct _ _ g = A
        have h13 : A.tmps[13]?.getD undef = .pointer (some ⟨q, 2, none⟩) := by rw [← hA, mkAct_in2 _ _ _ _ rfl rfl]; exact e13
        have c := (cq w' hJ).2.2.1
        refine step_val (v := .int .i64 ar) (w' := w') ?_ ⟨rfl, Ext.refl _ _⟩
        simp [execOp, h13, c, Result.andThen, go_sem]
      case f7_1a =>
        intro f v g w' hJ hfi hb hd
        refine arm_u rfl ?_
        have eg : g 10 = .bool false := value_u (hd ⟨2, .guard⟩ (by simp) rfl) rfl rfl
        refine op_yes rfl rfl rfl rfl eg ?_
        have e14 : g 14 = .int .i64 ar := value_u (hd ⟨6, .data⟩ (by simp) rfl) rfl rfl
        generalize hA : mkAct _ _ g = A
        have h14 : A.tmps[14]?.getD undef = .int .i64 ar := by rw [← hA, mkAct_in2 _ _ _ _ rfl rfl]; exact e14
        refine step_val (v := .bool true) (w' := w') ?_ ⟨rfl, Ext.refl _ _⟩
        simp [execOp, e1, h14, Result.andThen, go_sem]
      case f8_1a =>
        intro f v g w' hJ hfi hb hd
        refine arm_u rfl ?_
        refine op_run rfl ?_
        have e10 : g 10 = .bool false := value_u (hd ⟨2, .data⟩ (by simp) rfl) rfl rfl
        have e15 : g 15 = .bool true := value_u (hd ⟨7, .data⟩ (by simp) rfl) rfl rfl
        generalize hA : mkAct _ _ g = A
        have h10 : A.tmps[10]?.getD undef = .bool false := by rw [← hA, mkAct_in2 _ _ _ _ rfl rfl]; exact e10
        have h15 : A.tmps[15]?.getD undef = .bool true := by rw [← hA, mkAct_in2 _ _ _ _ rfl rfl]; exact e15
        refine step_val (v := .bool true) (w' := w') ?_ ⟨rfl, Ext.refl _ _⟩
        simp [execOp, h10, h15, Result.andThen, go_sem]
      case f9_1a =>
        intro f v g w' hJ hfi hb hd
        refine arm_u rfl ?_
        refine op_run rfl ?_
        have e16 : g 16 = .bool true := value_u (hd ⟨8, .data⟩ (by simp) rfl) rfl rfl
        generalize hA : mkAct _ _ g = A
        have h16 : A.tmps[16]?.getD undef = .bool true := by rw [← hA, mkAct_in2 _ _ _ _ rfl rfl]; exact e16
        refine step_val (v := .bool true) (w' := w') ?_ ⟨rfl, Ext.refl _ _⟩
        simp [execOp, h16, Result.andThen, go_sem]
      case f10_1a =>
        intro f v g w' hJ hfi hb hd
        refine arm_u rfl ?_
        have eg : g 17 = .bool true := value_u (hd ⟨9, .guard⟩ (by simp) rfl) rfl rfl
        exact op_no rfl rfl rfl rfl true eg (by decide) ⟨rfl, Ext.refl _ _⟩
      case f11_1a =>
        intro f v g w' hJ hfi hb hd
        refine arm_u rfl ?_
        have eg : g 17 = .bool true := value_u (hd ⟨9, .guard⟩ (by simp) rfl) rfl rfl
        exact op_no rfl rfl rfl rfl true eg (by decide) ⟨rfl, Ext.refl _ _⟩
      case f12_1a =>
        intro f v g w' hJ hfi hb hd
        refine arm_u rfl ?_
        refine op_run rfl ?_
        have e17 : g 17 = .bool true := value_u (hd ⟨9, .data⟩ (by simp) rfl) rfl rfl
        have e19 : g 19 = undef := value_u (hd ⟨11, .data⟩ (by simp) rfl) rfl rfl
        generalize hA : mkAct _ _ g = A
        have h17 : A.tmps[17]?.getD undef = .bool true := by rw [← hA, mkAct_in2 _ _ _ _ rfl rfl]; exact e17
        have h19 : A.tmps[19]?.getD undef = undef := by rw [← hA, mkAct_in2 _ _ _ _ rfl rfl]; exact e19
        refine step_val (v := .bool true) (w' := w') ?_ ⟨rfl, Ext.refl _ _⟩
        simp [execOp, h17, h19, Result.andThen, go_sem]
      case f13_1a =>
        intro f v g w' hJ hfi hb hd
        refine arm_u rfl ?_
        refine op_run rfl ?_
        have e20 : g 20 = .bool true := value_u (hd ⟨12, .data⟩ (by simp) rfl) rfl rfl
        generalize hA : mkAct _ _ g = A
        have h20 : A.tmps[20]?.getD undef = .bool true := by rw [← hA, mkAct_in2 _ _ _ _ rfl rfl]; exact e20
        refine step_val (v := .bool true) (w' := w') ?_ ⟨rfl, Ext.refl _ _⟩
        simp [execOp, h20, Result.andThen, go_sem]
      case f14_1a =>
        intro f v g w' hJ hfi hb hd
        refine arm_u rfl ?_
        have eg : g 21 = .bool true := value_u (hd ⟨13, .guard⟩ (by simp) rfl) rfl rfl
        exact op_no rfl rfl rfl rfl true eg (by decide) ⟨rfl, Ext.refl _ _⟩
      case f15_1a =>
        intro f v g w' hJ hfi hb hd
        refine arm_u rfl ?_
        have eg : g 21 = .bool true := value_u (hd ⟨13, .guard⟩ (by simp) rfl) rfl rfl
        exact op_no rfl rfl rfl rfl true eg (by decide) ⟨rfl, Ext.refl _ _⟩
      case f16_1a =>
        intro f v g w' hJ hfi hb hd
        refine arm_u rfl ?_
        have eg : g 21 = .bool true := value_u (hd ⟨13, .guard⟩ (by simp) rfl) rfl rfl
        exact op_no rfl rfl rfl rfl true eg (by decide) ⟨rfl, Ext.refl _ _⟩
      case f17_1a =>
        intro f v g w' hJ hfi hb hd
        refine arm_u rfl ?_
        have eg : g 21 = .bool true := value_u (hd ⟨13, .guard⟩ (by simp) rfl) rfl rfl
        exact op_no rfl rfl rfl rfl true eg (by decide) ⟨rfl, Ext.refl _ _⟩
      case f18_1a =>
        intro f v g w' hJ hfi hb hd
        refine arm_u rfl ?_
        have eg : g 21 = .bool true := value_u (hd ⟨13, .guard⟩ (by simp) rfl) rfl rfl
        exact op_no rfl rfl rfl rfl true eg (by decide) ⟨rfl, Ext.refl _ _⟩
      case f19_1a =>
        intro f v g w' hJ hfi hb hd
        refine arm_u rfl ?_
        have eg : g 21 = .bool true := value_u (hd ⟨13, .guard⟩ (by simp) rfl) rfl rfl
        exact op_no rfl rfl rfl rfl true eg (by decide) ⟨rfl, Ext.refl _ _⟩
      case f20_1a =>
        intro f v g w' hJ hfi hb hd
        refine arm_u rfl ?_
        have eg : g 21 = .bool true := value_u (hd ⟨13, .guard⟩ (by simp) rfl) rfl rfl
        exact op_no rfl rfl rfl rfl true eg (by decide) ⟨rfl, Ext.refl _ _⟩
      case f21_1a =>
        intro f v g w' hJ hfi hb hd
        refine arm_u rfl ?_
        have eg : g 21 = .bool true := value_u (hd ⟨13, .guard⟩ (by simp) rfl) rfl rfl
        exact op_no rfl rfl rfl rfl true eg (by decide) ⟨rfl, Ext.refl _ _⟩
      case f22_1a =>
        intro f v g w' hJ hfi hb hd
        refine arm_u rfl ?_
        refine op_run rfl ?_
        have e21 : g 21 = .bool true := value_u (hd ⟨13, .data⟩ (by simp) rfl) rfl rfl
        have e29 : g 29 = undef := value_u (hd ⟨21, .data⟩ (by simp) rfl) rfl rfl
        generalize hA : mkAct _ _ g = A
        have h21 : A.tmps[21]?.getD undef = .bool true := by rw [← hA, mkAct_in2 _ _ _ _ rfl rfl]; exact e21
        have h29 : A.tmps[29]?.getD undef = undef := by rw [← hA, mkAct_in2 _ _ _ _ rfl rfl]; exact e29
        refine step_val (v := .bool true) (w' := w') ?_ ⟨rfl, Ext.refl _ _⟩
        simp [execOp, h21, h29, Result.andThen, go_sem]
      case f23_1a =>
        intro f v g w' hJ hfi hb hd
        refine arm_u rfl ?_
        refine op_run rfl ?_
        have e30 : g 30 = .bool true := value_u (hd ⟨22, .data⟩ (by simp) rfl) rfl rfl
        generalize hA : mkAct _ _ g = A
        have h30 : A.tmps[30]?.getD undef = .bool true := by rw [← hA, mkAct_in2 _ _ _ _ rfl rfl]; exact e30
        refine step_val (v := .bool true) (w' := w') ?_ ⟨rfl, Ext.refl _ _⟩
        simp [execOp, h30, Result.andThen, go_sem]
      case f24_1a =>
        intro f v g w' hJ hfi hb hd
        refine arm_u rfl ?_
        have eg : g 31 = .bool true := value_u (hd ⟨23, .guard⟩ (by simp) rfl) rfl rfl
        exact op_no rfl rfl rfl rfl true eg (by decide) ⟨rfl, Ext.refl _ _⟩
      case f25_1a =>
        intro f v g w' hJ hfi hb hd
        refine arm_u rfl ?_
        have eg : g 31 = .bool true := value_u (hd ⟨23, .guard⟩ (by simp) rfl) rfl rfl
        exact op_no rfl rfl rfl rfl true eg (by decide) ⟨rfl, Ext.refl _ _⟩
      case f26_1a =>
        intro f v g w' hJ hfi hb hd
        refine arm_u rfl ?_
        have eg : g 31 = .bool true := value_u (hd ⟨23, .guard⟩ (by simp) rfl) rfl rfl
        exact op_no rfl rfl rfl rfl true eg (by decide) ⟨rfl, Ext.refl _ _⟩
      case f27_1a =>
        intro f v g w' hJ hfi hb hd
        refine arm_u rfl ?_
        have eg : g 31 = .bool true := value_u (hd ⟨23, .guard⟩ (by simp) rfl) rfl rfl
        exact op_no rfl rfl rfl rfl true eg (by decide) ⟨rfl, Ext.refl _ _⟩
      case f28_1a =>
        intro f v g w' hJ hfi hb hd
        refine arm_u rfl ?_
        have eg : g 31 = .bool true := value_u (hd ⟨23, .guard⟩ (by simp) rfl) rfl rfl
        exact op_no rfl rfl rfl rfl true eg (by decide) ⟨rfl, Ext.refl _ _⟩
      case f29_1a =>
        intro f v g w' hJ hfi hb hd
        refine arm_u rfl ?_
        have eg : g 31 = .bool true := value_u (hd ⟨23, .guard⟩ (by simp) rfl) rfl rfl
        exact op_no rfl rfl rfl rfl true eg (by decide) ⟨rfl, Ext.refl _ _⟩
      case f30_1a =>
        intro f v g w' hJ hfi hb hd
        refine arm_u rfl ?_
        have eg : g 31 = .bool true := value_u (hd ⟨23, .guard⟩ (by simp) rfl) rfl rfl
        exact op_no rfl rfl rfl rfl true eg (by decide) ⟨rfl, Ext.refl _ _⟩
      case f31_1a =>
        intro f v g w' hJ hfi hb hd
        refine arm_u rfl ?_
        have eg : g 31 = .bool true := value_u (hd ⟨23, .guard⟩ (by simp) rfl) rfl rfl
        exact op_no rfl rfl rfl rfl true eg (by decide) ⟨rfl, Ext.refl _ _⟩
      case f32_1a =>
        intro f v g w' hJ hfi hb hd
        refine arm_u rfl ?_
        have eg : g 31 = .bool true := value_u (hd ⟨23, .guard⟩ (by simp) rfl) rfl rfl
        exact op_no rfl rfl rfl rfl true eg (by decide) ⟨rfl, Ext.refl _ _⟩
      case f33_1a =>
        intro f v g w' hJ hfi hb hd
        refine arm_u rfl ?_
        have eg : g 31 = .bool true := value_u (hd ⟨23, .guard⟩ (by simp) rfl) rfl rfl
        exact op_no rfl rfl rfl rfl true eg (by decide) ⟨rfl, Ext.refl _ _⟩
      case f34_1a =>
        intro f v g w' hJ hfi hb hd
        refine arm_u rfl ?_
        have eg : g 31 = .bool true := value_u (hd ⟨23, .guard⟩ (by simp) rfl) rfl rfl
        exact op_no rfl rfl rfl rfl true eg (by decide) ⟨rfl, Ext.refl _ _⟩
      case f35_1a =>
        intro f v g w' hJ hfi hb hd
        refine arm_u rfl ?_
        have eg : g 31 = .bool true := value_u (hd ⟨23, .guard⟩ (by simp) rfl) rfl rfl
        exact op_no rfl rfl rfl rfl true eg (by decide) ⟨rfl, Ext.refl _ _⟩
      case f36_1a =>
        intro f v g w' hJ hfi hb hd
        refine arm_u rfl ?_
        refine op_run rfl ?_
        have e31 : g 31 = .bool true := value_u (hd ⟨23, .data⟩ (by simp) rfl) rfl rfl
        have e43 : g 43 = undef := value_u (hd ⟨35, .data⟩ (by simp) rfl) rfl rfl
        generalize hA : mkAct _ _ g = A
        have h31 : A.tmps[31]?.getD undef = .bool true := by rw [← hA, mkAct_in2 _ _ _ _ rfl rfl]; exact e31
        have h43 : A.tmps[43]?.getD undef = undef := by rw [← hA, mkAct_in2 _ _ _ _ rfl rfl]; exact e43
        refine step_val (v := .bool true) (w' := w') ?_ ⟨rfl, Ext.refl _ _⟩
        simp [execOp, h31, h43, Result.andThen, go_sem]
      case f37_1a =>
        intro f v g w' hJ hfi hb hd
        refine arm_u rfl ?_
        refine op_run rfl ?_
        have e44 : g 44 = .bool true := value_u (hd ⟨36, .data⟩ (by simp) rfl) rfl rfl
        generalize hA : mkAct _ _ g = A
        have h44 : A.tmps[44]?.getD undef = .bool true := by rw [← hA, mkAct_in2 _ _ _ _ rfl rfl]; exact e44
        refine step_val (v := .bool true) (w' := w') ?_ ⟨rfl, Ext.refl _ _⟩
        simp [execOp, h44, Result.andThen, go_sem]
      case f38_1a =>
        intro f v g w' hJ hfi hb hd
        refine arm_u rfl ?_
        have eg : g 45 = .bool true := value_u (hd ⟨37, .guard⟩ (by simp) rfl) rfl rfl
        exact op_no rfl rfl rfl rfl true eg (by decide) ⟨rfl, Ext.refl _ _⟩
      case f39_1a =>
        intro f v g w' hJ hfi hb hd
        refine arm_u rfl ?_
        have eg : g 45 = .bool true := value_u (hd ⟨37, .guard⟩ (by simp) rfl) rfl rfl
        exact op_no rfl rfl rfl rfl true eg (by decide) ⟨rfl, Ext.refl _ _⟩
      case f40_1a =>
        intro f v g w' hJ hfi hb hd
        refine arm_u rfl ?_
        have eg : g 45 = .bool true := value_u (hd ⟨37, .guard⟩ (by simp) rfl) rfl rfl
        exact op_no rfl rfl rfl rfl true eg (by decide) ⟨rfl, Ext.refl _ _⟩
      case f41_1a =>
        intro f v g w' hJ hfi hb hd
        refine arm_u rfl ?_
        have eg : g 45 = .bool true := value_u (hd ⟨37, .guard⟩ (by simp) rfl) rfl rfl
        exact op_no rfl rfl rfl rfl true eg (by decide) ⟨rfl, Ext.refl _ _⟩
      case f42_1a =>
        intro f v g w' hJ hfi hb hd
        refine arm_u rfl ?_
        have eg : g 45 = .bool true := value_u (hd ⟨37, .guard⟩ (by simp) rfl) rfl rfl
        exact op_no rfl rfl rfl rfl true eg (by decide) ⟨rfl, Ext.refl _ _⟩
      case f43_1a =>
        intro f v g w' hJ hfi hb hd
        refine arm_u rfl ?_
        have eg : g 45 = .bool true := value_u (hd ⟨37, .guard⟩ (by simp) rfl) rfl rfl
        exact op_no rfl rfl rfl rfl true eg (by decide) ⟨rfl, Ext.refl _ _⟩
      case f44_1a =>
        intro f v g w' hJ hfi hb hd
        refine arm_u rfl ?_
        have eg : g 45 = .bool true := value_u (hd ⟨37, .guard⟩ (by simp) rfl) rfl rfl
        exact op_no rfl rfl rfl rfl true eg (by decide) ⟨rfl, Ext.refl _ _⟩
      case f45_1a =>
        intro f v g w' hJ hfi hb hd
        refine arm_u rfl ?_
        have eg : g 45 = .bool true := value_u (hd ⟨37, .guard⟩ (by simp) rfl) rfl rfl
        exact op_no rfl rfl rfl rfl true eg (by decide) ⟨rfl, Ext.refl _ _⟩
      case f46_1a =>
        intro f v g w' hJ hfi hb hd
        refine arm_u rfl ?_
        have eg : g 45 = .bool true := value_u (hd ⟨37, .guard⟩ (by simp) rfl) rfl rfl
        exact op_no rfl rfl rfl rfl true eg (by decide) ⟨rfl, Ext.refl _ _⟩
      case f47_1a =>
        intro f v g w' hJ hfi hb hd
        refine arm_u rfl ?_
        have eg : g 45 = .bool true := value_u (hd ⟨37, .guard⟩ (by simp) rfl) rfl rfl
        exact op_no rfl rfl rfl rfl true eg (by decide) ⟨rfl, Ext.refl _ _⟩
      case f48_1a =>
        intro f v g w' hJ hfi hb hd
        refine arm_u rfl ?_
        have eg : g 45 = .bool true := value_u (hd ⟨37, .guard⟩ (by simp) rfl) rfl rfl
        exact op_no rfl rfl rfl rfl true eg (by decide) ⟨rfl, Ext.refl _ _⟩
      case f49_1a =>
        intro f v g w' hJ hfi hb hd
        refine arm_u rfl ?_
        have eg : g 45 = .bool true := value_u (hd ⟨37, .guard⟩ (by simp) rfl) rfl rfl
        exact op_no rfl rfl rfl rfl true eg (by decide) ⟨rfl, Ext.refl _ _⟩
      case f50_1a =>
        intro f v g w' hJ hfi hb hd
        refine arm_u rfl ?_
        refine op_run rfl ?_
        have e45 : g 45 = .bool true := value_u (hd ⟨37, .data⟩ (by simp) rfl) rfl rfl
        have e57 : g 57 = undef := value_u (hd ⟨49, .data⟩ (by simp) rfl) rfl rfl
        generalize hA : mkAct _ _ g = A
        have h45 : A.tmps[45]?.getD undef = .bool true := by rw [← hA, mkAct_in2 _ _ _ _ rfl rfl]; exact e45
        have h57 : A.tmps[57]?.getD undef = undef := by rw [← hA, mkAct_in2 _ _ _ _ rfl rfl]; exact e57
        refine step_val (v := .bool true) (w' := w') ?_ ⟨rfl, Ext.refl _ _⟩
        simp [execOp, h45, h57, Result.andThen, go_sem]
    intro f v g wn hJ hk
    have e58 : g 58 = .bool true := value_u (hk 50 (by decide)) rfl rfl
    clear hk cq
    unfold mkAct; simp only [List.zipIdx_cons, List.zipIdx_nil, List.map_cons, List.map_nil, Nat.zero_add, Nat.reduceAdd, List.contains_cons, List.contains_nil, Nat.reduceBEq, Bool.or_false, Bool.or_true, ↓reduceIte, Bool.false_eq_true]
    rw [e58]
    go_wp2
    go_ret
    exact ⟨rfl, hJ⟩
  · have e1 : decide (ar < 0) = false := decide_eq_false h1
    by_cases h2 : k < 0
    · have e2 : decide (k < 0) = true := decide_eq_true h2
      clear hk
      go_enter Try.func19, Try.ntmps19
      go_upto_region 1 with fail
      refine wp_region_u [8, 9, 10, 11, 12, 13, 14, 15, 16, 17, 18, 19, 20, 21, 22, 23, 24, 25, 26, 27, 28, 29, 30, 31, 32, 33, 34, 35, 36, 37, 38, 39, 40, 41, 42, 43, 44, 45, 46, 47, 48, 49, 50, 51, 52, 53, 54, 55, 56, 57, 58] [] (fun n => match n with | 0 => .pointer (some ⟨q, 0, none⟩) | 1 => .bool false | 2 => .bool false | 3 => .pointer (some ⟨q, 0, none⟩) | 4 => .pointer (some ⟨q, 0, none⟩) | 5 => .pointer (some ⟨q, 2, none⟩) | 6 => .int .i64 ar | 7 => .bool false | 8 => .bool false | 9 => .bool false | 10 => .int .i64 k | 11 => .bool true | 12 => .bool true | 13 => .bool true | 14 => undef | 15 => undef | 16 => undef | 17 => undef | 18 => undef | 19 => undef | 20 => undef | 21 => undef | 22 => .bool true | 23 => .bool true | 24 => undef | 25 => undef | 26 => undef | 27 => undef | 28 => undef | 29 => undef | 30 => undef | 31 => undef | 32 => undef | 33 => undef | 34 => undef | 35 => undef | 36 => .bool true | 37 => .bool true | 38 => undef | 39 => undef | 40 => undef | 41 => undef | 42 => undef | 43 => undef | 44 => undef | 45 => undef | 46 => undef | 47 => undef | 48 => undef | 49 => undef | 50 => .bool true | _ => undef) (fun f v wx => Ext [] w wx) (by kernel_rfl) (by kernel_rfl) ?hst0_1b ?h00_1b ?hst_1b ?hend_1b
      case hst0_1b =>
        exact fun f v w w' h hx => h.then0 hx
      case h00_1b =>
        exact Ext.refl _ _
      case hst_1b =>
        refine ⟨?f0_1b, ?f1_1b, ?f2_1b, ?f3_1b, ?f4_1b, ?f5_1b, ?f6_1b, ?f7_1b, ?f8_1b, ?f9_1b, ?f10_1b, ?f11_1b, ?f12_1b, ?f13_1b, ?f14_1b, ?f15_1b, ?f16_1b, ?f17_1b, ?f18_1b, ?f19_1b, ?f20_1b, ?f21_1b, ?f22_1b, ?f23_1b, ?f24_1b, ?f25_1b, ?f26_1b, ?f27_1b, ?f28_1b, ?f29_1b, ?f30_1b, ?f31_1b, ?f32_1b, ?f33_1b, ?f34_1b, ?f35_1b, ?f36_1b, ?f37_1b, ?f38_1b, ?f39_1b, ?f40_1b, ?f41_1b, ?f42_1b, ?f43_1b, ?f44_1b, ?f45_1b, ?f46_1b, ?f47_1b, ?f48_1b, ?f49_1b, ?f50_1b, trivial⟩
        case f0_1b =>
          intro f v g w' hJ hfi hb hd
          refine arm_u rfl ?_
          refine op_run rfl ?_
          generalize hA : mkAct _ _ g = A
          have h0 : A.tmps[0]?.getD undef = .pointer (some ⟨q, 0, none⟩) := by rw [← hA]; exact mkAct_out2 _ _ _ _ _ rfl rfl
          refine step_val (v := .pointer (some ⟨q, 0, none⟩)) (w' := w') ?_ ⟨rfl, Ext.refl _ _⟩
          simp [execOp, h0, Result.andThen, go_sem]
        case f1_1b =>
          intro f v g w' hJ hfi hb hd
          refine arm_u rfl ?_
          refine op_run rfl ?_
          have e8 : g 8 = .pointer (some ⟨q, 0, none⟩) := value_u (hd ⟨0, .data⟩ (by simp) rfl) rfl rfl
          generalize hA : mkAct _ _ g = A
          have h8 : A.tmps[8]?.getD undef = .pointer (some ⟨q, 0, none⟩) := by rw [← hA, mkAct_in2 _ _ _ _ rfl rfl]; exact e8
          refine step_val (v := .bool false) (w' := w') ?_ ⟨rfl, Ext.refl _ _⟩
          simp [execOp, h8, Result.andThen, go_sem]
        case f2_1b =>
          intro f v g w' hJ hfi hb hd
          refine arm_u rfl ?_
          refine op_run rfl ?_
          have e9 : g 9 = .bool false := value_u (hd ⟨1, .data⟩ (by simp) rfl) rfl rfl
          generalize hA : mkAct _ _ g = A
          have h9 : A.tmps[9]?.getD undef = .bool false := by rw [← hA, mkAct_in2 _ _ _ _ rfl rfl]; exact e9
          refine step_val (v := .bool false) (w' := w') ?_ ⟨rfl, Ext.refl _ _⟩
          simp [execOp, h9, Result.andThen, go_sem]
        case f3_1b =>
          intro f v g w' hJ hfi hb hd
          refine arm_u rfl ?_
          have eg : g 10 = .bool false := value_u (hd ⟨2, .guard⟩ (by simp) rfl) rfl rfl
          refine op_yes rfl rfl rfl rfl eg ?_
          generalize hA : mkAct _ _ g = A
          have h0 : A.tmps[0]?.getD undef = .pointer (some ⟨q, 0, none⟩) := by rw [← hA]; exact mkAct_out2 _ _ _ _ _ rfl rfl
          refine step_val (v := .pointer (some ⟨q, 0, none⟩)) (w' := w') ?_ ⟨rfl, Ext.refl _ _⟩
          simp [execOp, h0, Result.andThen, go_sem]
        case f4_1b =>
          intro f v g w' hJ hfi hb hd
          refine arm_u rfl ?_
          have eg : g 10 = .bool false := value_u (hd ⟨2, .guard⟩ (by simp) rfl) rfl rfl
          refine op_yes rfl rfl rfl rfl eg ?_
          have e11 : g 11 = .pointer (some ⟨q, 0, none⟩) := value_u (hd ⟨3, .data⟩ (by simp) rfl) rfl rfl
          generalize hA : mkAct _ _ g = A
          have h11 : A.tmps[11]?.getD undef = .pointer (some ⟨q, 0, none⟩) := by rw [← hA, mkAct_in2 _ _ _ _ rfl rfl]; exact e11
          refine step_val (v := .pointer (some ⟨q, 0, none⟩)) (w' := w') ?_ ⟨rfl, Ext.refl _ _⟩
          simp [execOp, h11, Result.andThen, go_sem]
        case f5_1b =>
          intro f v g w' hJ hfi hb hd
          refine arm_u rfl ?_
          have eg : g 10 = .bool false := value_u (hd ⟨2, .guard⟩ (by simp) rfl) rfl rfl
          refine op_yes rfl rfl rfl rfl eg ?_
          have e12 : g 12 = .pointer (some ⟨q, 0, none⟩) := value_u (hd ⟨4, .data⟩ (by simp) rfl) rfl rfl
          generalize hA : mkAct _ _ g = A
          have h12 : A.tmps[12]?.getD undef = .pointer (some ⟨q, 0, none⟩) := by rw [← hA, mkAct_in2 _ _ _ _ rfl rfl]; exact e12
          refine step_val (v := .pointer (some ⟨q, 2, none⟩)) (w' := w') ?_ ⟨rfl, Ext.refl _ _⟩
          simp [execOp, h12, Result.andThen, go_sem]
        case f6_1b =>
          intro f v g w' hJ hfi hb hd
          refine arm_u rfl ?_
          have eg : g 10 = .bool false := value_u (hd ⟨2, .guard⟩ (by simp) rfl) rfl rfl
          refine op_yes rfl rfl rfl rfl eg ?_
          have e13 : g 13 = .pointer (some ⟨q, 2, none⟩) := value_u (hd ⟨5, .data⟩ (by simp) rfl) rfl rfl
          generalize hA : mkAct _ _ g = A
          have h13 : A.tmps[13]?.getD undef = .pointer (some ⟨q, 2, none⟩) := by rw [← hA, mkAct_in2 _ _ _ _ rfl rfl]; exact e13
          have c := (cq w' hJ).2.2.1
          refine step_val (v := .int .i64 ar) (w' := w') ?_ ⟨rfl, Ext.refl _ _⟩
          simp [execOp, h13, c, Result.andThen, go_sem]
        case f7_1b =>
          intro f v g w' hJ hfi hb hd
          refine arm_u rfl ?_
          have eg : g 10 = .bool false := value_u (hd ⟨2, .guard⟩ (by simp) rfl) rfl rfl
          refine op_yes rfl rfl rfl rfl eg ?_
          have e14 : g 14 = .int .i64 ar := value_u (hd ⟨6, .data⟩ (by simp) rfl) rfl rfl
          generalize hA : mkAct _ _ g = A
          have h14 : A.tmps[14]?.getD undef = .int .i64 ar := by rw [← hA, mkAct_in2 _ _ _ _ rfl rfl]; exact e14
          refine step_val (v := .bool false) (w' := w') ?_ ⟨rfl, Ext.refl _ _⟩
          simp [execOp, e1, h14, Result.andThen, go_sem]
        case f8_1b =>
          intro f v g w' hJ hfi hb hd
          refine arm_u rfl ?_
          refine op_run rfl ?_
          have e10 : g 10 = .bool false := value_u (hd ⟨2, .data⟩ (by simp) rfl) rfl rfl
          have e15 : g 15 = .bool false := value_u (hd ⟨7, .data⟩ (by simp) rfl) rfl rfl
          generalize hA : mkAct _ _ g = A
          have h10 : A.tmps[10]?.getD undef = .bool false := by rw [← hA, mkAct_in2 _ _ _ _ rfl rfl]; exact e10
          have h15 : A.tmps[15]?.getD undef = .bool false := by rw [← hA, mkAct_in2 _ _ _ _ rfl rfl]; exact e15
          refine step_val (v := .bool false) (w' := w') ?_ ⟨rfl, Ext.refl _ _⟩
          simp [execOp, h10, h15, Result.andThen, go_sem]
        case f9_1b =>
          intro f v g w' hJ hfi hb hd
          refine arm_u rfl ?_
          refine op_run rfl ?_
          have e16 : g 16 = .bool false := value_u (hd ⟨8, .data⟩ (by simp) rfl) rfl rfl
          generalize hA : mkAct _ _ g = A
          have h16 : A.tmps[16]?.getD undef = .bool false := by rw [← hA, mkAct_in2 _ _ _ _ rfl rfl]; exact e16
          refine step_val (v := .bool false) (w' := w') ?_ ⟨rfl, Ext.refl _ _⟩
          simp [execOp, h16, Result.andThen, go_sem]
        case f10_1b =>
          intro f v g w' hJ hfi hb hd
          refine arm_u rfl ?_
          have eg : g 17 = .bool false := value_u (hd ⟨9, .guard⟩ (by simp) rfl) rfl rfl
          refine op_yes rfl rfl rfl rfl eg ?_
          generalize hA : mkAct _ _ g = A
          have h1 : A.tmps[1]?.getD undef = .int .i64 k := by rw [← hA]; exact mkAct_out2 _ _ _ _ _ rfl rfl
          refine step_val (v := .int .i64 k) (w' := w') ?_ ⟨rfl, Ext.refl _ _⟩
          simp [execOp, h1, Result.andThen, go_sem]
        case f11_1b =>
          intro f v g w' hJ hfi hb hd
          refine arm_u rfl ?_
          have eg : g 17 = .bool false := value_u (hd ⟨9, .guard⟩ (by simp) rfl) rfl rfl
          refine op_yes rfl rfl rfl rfl eg ?_
          have e18 : g 18 = .int .i64 k := value_u (hd ⟨10, .data⟩ (by simp) rfl) rfl rfl
          generalize hA : mkAct _ _ g = A
          have h18 : A.tmps[18]?.getD undef = .int .i64 k := by rw [← hA, mkAct_in2 _ _ _ _ rfl rfl]; exact e18
          refine step_val (v := .bool true) (w' := w') ?_ ⟨rfl, Ext.refl _ _⟩
          simp [execOp, e2, h18, Result.andThen, go_sem]
        case f12_1b =>
          intro f v g w' hJ hfi hb hd
          refine arm_u rfl ?_
          refine op_run rfl ?_
          have e17 : g 17 = .bool false := value_u (hd ⟨9, .data⟩ (by simp) rfl) rfl rfl
          have e19 : g 19 = .bool true := value_u (hd ⟨11, .data⟩ (by simp) rfl) rfl rfl
          generalize hA : mkAct _ _ g = A
          have h17 : A.tmps[17]?.getD undef = .bool false := by rw [← hA, mkAct_in2 _ _ _ _ rfl rfl]; exact e17
          have h19 : A.tmps[19]?.getD undef = .bool true := by rw [← hA, mkAct_in2 _ _ _ _ rfl rfl]; exact e19
          refine step_val (v := .bool true) (w' := w') ?_ ⟨rfl, Ext.refl _ _⟩
          simp [execOp, h17, h19, Result.andThen, go_sem]
        case f13_1b =>
          intro f v g w' hJ hfi hb hd
          refine arm_u rfl ?_
          refine op_run rfl ?_
          have e20 : g 20 = .bool true := value_u (hd ⟨12, .data⟩ (by simp) rfl) rfl rfl
          generalize hA : mkAct _ _ g = A
          have h20 : A.tmps[20]?.getD undef = .bool true := by rw [← hA, mkAct_in2 _ _ _ _ rfl rfl]; exact e20
          refine step_val (v := .bool true) (w' := w') ?_ ⟨rfl, Ext.refl _ _⟩
          simp [execOp, h20, Result.andThen, go_sem]
        case f14_1b =>
          intro f v g w' hJ hfi hb hd
          refine arm_u rfl ?_
          have eg : g 21 = .bool true := value_u (hd ⟨13, .guard⟩ (by simp) rfl) rfl rfl
          exact op_no rfl rfl rfl rfl true eg (by decide) ⟨rfl, Ext.refl _ _⟩
        case f15_1b =>
          intro f v g w' hJ hfi hb hd
          refine arm_u rfl ?_
          have eg : g 21 = .bool true := value_u (hd ⟨13, .guard⟩ (by simp) rfl) rfl rfl
          exact op_no rfl rfl rfl rfl true eg (by decide) ⟨rfl, Ext.refl _ _⟩
        case f16_1b =>
          intro f v g w' hJ hfi hb hd
          refine arm_u rfl ?_
          have eg : g 21 = .bool true := value_u (hd ⟨13, .guard⟩ (by simp) rfl) rfl rfl
          exact op_no rfl rfl rfl rfl true eg (by decide) ⟨rfl, Ext.refl _ _⟩
        case f17_1b =>
          intro f v g w' hJ hfi hb hd
          refine arm_u rfl ?_
          have eg : g 21 = .bool true := value_u (hd ⟨13, .guard⟩ (by simp) rfl) rfl rfl
          exact op_no rfl rfl rfl rfl true eg (by decide) ⟨rfl, Ext.refl _ _⟩
        case f18_1b =>
          intro f v g w' hJ hfi hb hd
          refine arm_u rfl ?_
          have eg : g 21 = .bool true := value_u (hd ⟨13, .guard⟩ (by simp) rfl) rfl rfl
          exact op_no rfl rfl rfl rfl true eg (by decide) ⟨rfl, Ext.refl _ _⟩
        case f19_1b =>
          intro f v g w' hJ hfi hb hd
          refine arm_u rfl ?_
          have eg : g 21 = .bool true := value_u (hd ⟨13, .guard⟩ (by simp) rfl) rfl rfl
          exact op_no rfl rfl rfl rfl true eg (by decide) ⟨rfl, Ext.refl _ _⟩
        case f20_1b =>
          intro f v g w' hJ hfi hb hd
          refine arm_u rfl ?_
          have eg : g 21 = .bool true := value_u (hd ⟨13, .guard⟩ (by simp) rfl) rfl rfl
          exact op_no rfl rfl rfl rfl true eg (by decide) ⟨rfl, Ext.refl _ _⟩
        case f21_1b =>
          intro f v g w' hJ hfi hb hd
          refine arm_u rfl ?_
          have eg : g 21 = .bool true := value_u (hd ⟨13, .guard⟩ (by simp) rfl) rfl rfl
          exact op_no rfl rfl rfl rfl true eg (by decide) ⟨rfl, Ext.refl _ _⟩
        case f22_1b =>
          intro f v g w' hJ hfi hb hd
          refine arm_u rfl ?_
          refine op_run rfl ?_
          have e21 : g 21 = .bool true := value_u (hd ⟨13, .data⟩ (by simp) rfl) rfl rfl
          have e29 : g 29 = undef := value_u (hd ⟨21, .data⟩ (by simp) rfl) rfl rfl
          generalize hA : mkAct _ _ g = A
          have h21 : A.tmps[21]?.getD undef = .bool true := by rw [← hA, mkAct_in2 _ _ _ _ rfl rfl]; exact e21
          have h29 : A.tmps[29]?.getD undef = undef := by rw [← hA, mkAct_in2 _ _ _ _ rfl rfl]; exact e29
          refine step_val (v := .bool true) (w' := w') ?_ ⟨rfl, Ext.refl _ _⟩
          simp [execOp, h21, h29, Result.andThen, go_sem]
        case f23_1b =>
          intro f v g w' hJ hfi hb hd
          refine arm_u rfl ?_
          refine op_run rfl ?_
          have e30 : g 30 = .bool true := value_u (hd ⟨22, .data⟩ (by simp) rfl) rfl rfl
          generalize hA : mkAct _ _ g = A
          have h30 : A.tmps[30]?.getD undef = .bool true := by rw [← hA, mkAct_in2 _ _ _ _ rfl rfl]; exact e30
          refine step_val (v := .bool true) (w' := w') ?_ ⟨rfl, Ext.refl _ _⟩
          simp [execOp, h30, Result.andThen, go_sem]
        case f24_1b =>
          intro f v g w' hJ hfi hb hd
          refine arm_u rfl ?_
          have eg : g 31 = .bool true := value_u (hd ⟨23, .guard⟩ (by simp) rfl) rfl rfl
          exact op_no rfl rfl rfl rfl true eg (by decide) ⟨rfl, Ext.refl _ _⟩
        case f25_1b =>
          intro f v g w' hJ hfi hb hd
          refine arm_u rfl ?_
          have eg : g 31 = .bool true := value_u (hd ⟨23, .guard⟩ (by simp) rfl) rfl rfl
          exact op_no rfl rfl rfl rfl true eg (by decide) ⟨rfl, Ext.refl _ _⟩
        case f26_1b =>
          intro f v g w' hJ hfi hb hd
          refine arm_u rfl ?_
          have eg : g 31 = .bool true := value_u (hd ⟨23, .guard⟩ (by simp) rfl) rfl rfl
          exact op_no rfl rfl rfl rfl true eg (by decide) ⟨rfl, Ext.refl _ _⟩
        case f27_1b =>
          intro f v g w' hJ hfi hb hd
          refine arm_u rfl ?_
          have eg : g 31 = .bool true := value_u (hd ⟨23, .guard⟩ (by simp) rfl) rfl rfl
          exact op_no rfl rfl rfl rfl true eg (by decide) ⟨rfl, Ext.refl _ _⟩
        case f28_1b =>
          intro f v g w' hJ hfi hb hd
          refine arm_u rfl ?_
          have eg : g 31 = .bool true := value_u (hd ⟨23, .guard⟩ (by simp) rfl) rfl rfl
          exact op_no rfl rfl rfl rfl true eg (by decide) ⟨rfl, Ext.refl _ _⟩
        case f29_1b =>
          intro f v g w' hJ hfi hb hd
          refine arm_u rfl ?_
          have eg : g 31 = .bool true := value_u (hd ⟨23, .guard⟩ (by simp) rfl) rfl rfl
          exact op_no rfl rfl rfl rfl true eg (by decide) ⟨rfl, Ext.refl _ _⟩
        case f30_1b =>
          intro f v g w' hJ hfi hb hd
          refine arm_u rfl ?_
          have eg : g 31 = .bool true := value_u (hd ⟨23, .guard⟩ (by simp) rfl) rfl rfl
          exact op_no rfl rfl rfl rfl true eg (by decide) ⟨rfl, Ext.refl _ _⟩
        case f31_1b =>
          intro f v g w' hJ hfi hb hd
          refine arm_u rfl ?_
          have eg : g 31 = .bool true := value_u (hd ⟨23, .guard⟩ (by simp) rfl) rfl rfl
          exact op_no rfl rfl rfl rfl true eg (by decide) ⟨rfl, Ext.refl _ _⟩
        case f32_1b =>
          intro f v g w' hJ hfi hb hd
          refine arm_u rfl ?_
          have eg : g 31 = .bool true := value_u (hd ⟨23, .guard⟩ (by simp) rfl) rfl rfl
          exact op_no rfl rfl rfl rfl true eg (by decide) ⟨rfl, Ext.refl _ _⟩
        case f33_1b =>
          intro f v g w' hJ hfi hb hd
          refine arm_u rfl ?_
          have eg : g 31 = .bool true := value_u (hd ⟨23, .guard⟩ (by simp) rfl) rfl rfl
          exact op_no rfl rfl rfl rfl true eg (by decide) ⟨rfl, Ext.refl _ _⟩
        case f34_1b =>
          intro f v g w' hJ hfi hb hd
          refine arm_u rfl ?_
          have eg : g 31 = .bool true := value_u (hd ⟨23, .guard⟩ (by simp) rfl) rfl rfl
          exact op_no rfl rfl rfl rfl true eg (by decide) ⟨rfl, Ext.refl _ _⟩
        case f35_1b =>
          intro f v g w' hJ hfi hb hd
          refine arm_u rfl ?_
          have eg : g 31 = .bool true := value_u (hd ⟨23, .guard⟩ (by simp) rfl) rfl rfl
          exact op_no rfl rfl rfl rfl true eg (by decide) ⟨rfl, Ext.refl _ _⟩
        case f36_1b =>
          intro f v g w' hJ hfi hb hd
          refine arm_u rfl ?_
          refine op_run rfl ?_
          have e31 : g 31 = .bool true := value_u (hd ⟨23, .data⟩ (by simp) rfl) rfl rfl
          have e43 : g 43 = undef := value_u (hd ⟨35, .data⟩ (by simp) rfl) rfl rfl
          generalize hA : mkAct _ _ g = A
          have h31 : A.tmps[31]?.getD undef = .bool true := by rw [← hA, mkAct_in2 _ _ _ _ rfl rfl]; exact e31
          have h43 : A.tmps[43]?.getD undef = undef := by rw [← hA, mkAct_in2 _ _ _ _ rfl rfl]; exact e43
          refine step_val (v := .bool true) (w' := w') ?_ ⟨rfl, Ext.refl _ _⟩
          simp [execOp, h31, h43, Result.andThen, go_sem]
        case f37_1b =>
          intro f v g w' hJ hfi hb hd
          refine arm_u rfl ?_
          refine op_run rfl ?_
          have e44 : g 44 = .bool true := value_u (hd ⟨36, .data⟩ (by simp) rfl) rfl rfl
          generalize hA : mkAct _ _ g = A
          have h44 : A.tmps[44]?.getD undef = .bool true := by rw [← hA, mkAct_in2 _ _ _ _ rfl rfl]; exact e44
          refine step_val (v := .bool true) (w' := w') ?_ ⟨rfl, Ext.refl _ _⟩
          simp [execOp, h44, Result.andThen, go_sem]
        case f38_1b =>
          intro f v g w' hJ hfi hb hd
          refine arm_u rfl ?_
          have eg : g 45 = .bool true := value_u (hd ⟨37, .guard⟩ (by simp) rfl) rfl rfl
          exact op_no rfl rfl rfl rfl true eg (by decide) ⟨rfl, Ext.refl _ _⟩
        case f39_1b =>
          intro f v g w' hJ hfi hb hd
          refine arm_u rfl ?_
          have eg : g 45 = .bool true := value_u (hd ⟨37, .guard⟩ (by simp) rfl) rfl rfl
          exact op_no rfl rfl rfl rfl true eg (by decide) ⟨rfl, Ext.refl _ _⟩
        case f40_1b =>
          intro f v g w' hJ hfi hb hd
          refine arm_u rfl ?_
          have eg : g 45 = .bool true := value_u (hd ⟨37, .guard⟩ (by simp) rfl) rfl rfl
          exact op_no rfl rfl rfl rfl true eg (by decide) ⟨rfl, Ext.refl _ _⟩
        case f41_1b =>
          intro f v g w' hJ hfi hb hd
          refine arm_u rfl ?_
          have eg : g 45 = .bool true := value_u (hd ⟨37, .guard⟩ (by simp) rfl) rfl rfl
          exact op_no rfl rfl rfl rfl true eg (by decide) ⟨rfl, Ext.refl _ _⟩
        case f42_1b =>
          intro f v g w' hJ hfi hb hd
          refine arm_u rfl ?_
          have eg : g 45 = .bool true := value_u (hd ⟨37, .guard⟩ (by simp) rfl) rfl rfl
          exact op_no rfl rfl rfl rfl true eg (by decide) ⟨rfl, Ext.refl _ _⟩
        case f43_1b =>
          intro f v g w' hJ hfi hb hd
          refine arm_u rfl ?_
          have eg : g 45 = .bool true := value_u (hd ⟨37, .guard⟩ (by simp) rfl) rfl rfl
          exact op_no rfl rfl rfl rfl true eg (by decide) ⟨rfl, Ext.refl _ _⟩
        case f44_1b =>
          intro f v g w' hJ hfi hb hd
          refine arm_u rfl ?_
          have eg : g 45 = .bool true := value_u (hd ⟨37, .guard⟩ (by simp) rfl) rfl rfl
          exact op_no rfl rfl rfl rfl true eg (by decide) ⟨rfl, Ext.refl _ _⟩
        case f45_1b =>
          intro f v g w' hJ hfi hb hd
          refine arm_u rfl ?_
          have eg : g 45 = .bool true := value_u (hd ⟨37, .guard⟩ (by simp) rfl) rfl rfl
          exact op_no rfl rfl rfl rfl true eg (by decide) ⟨rfl, Ext.refl _ _⟩
        case f46_1b =>
          intro f v g w' hJ hfi hb hd
          refine arm_u rfl ?_
          have eg : g 45 = .bool true := value_u (hd ⟨37, .guard⟩ (by simp) rfl) rfl rfl
          exact op_no rfl rfl rfl rfl true eg (by decide) ⟨rfl, Ext.refl _ _⟩
        case f47_1b =>
          intro f v g w' hJ hfi hb hd
          refine arm_u rfl ?_
          have eg : g 45 = .bool true := value_u (hd ⟨37, .guard⟩ (by simp) rfl) rfl rfl
          exact op_no rfl rfl rfl rfl true eg (by decide) ⟨rfl, Ext.refl _ _⟩
        case f48_1b =>
          intro f v g w' hJ hfi hb hd
          refine arm_u rfl ?_
          have eg : g 45 = .bool true := value_u (hd ⟨37, .guard⟩ (by simp) rfl) rfl rfl
          exact op_no rfl rfl rfl rfl true eg (by decide) ⟨rfl, Ext.refl _ _⟩
        case f49_1b =>
          intro f v g w' hJ hfi hb hd
          refine arm_u rfl ?_
          have eg : g 45 = .bool true := value_u (hd ⟨37, .guard⟩ (by simp) rfl) rfl rfl
          exact op_no rfl rfl rfl rfl true eg (by decide) ⟨rfl, Ext.refl _ _⟩
        case f50_1b =>
          intro f v g w' hJ hfi hb hd
          refine arm_u rfl ?_
          refine op_run rfl ?_
          have e45 : g 45 = .bool true := value_u (hd ⟨37, .data⟩ (by simp) rfl) rfl rfl
          have e57 : g 57 = undef := value_u (hd ⟨49, .data⟩ (by simp) rfl) rfl rfl
          generalize hA : mkAct _ _ g = A
          have h45 : A.tmps[45]?.getD undef = .bool true := by rw [← hA, mkAct_in2 _ _ _ _ rfl rfl]; exact e45
          have h57 : A.tmps[57]?.getD undef = undef := by rw [← hA, mkAct_in2 _ _ _ _ rfl rfl]; exact e57
          refine step_val (v := .bool true) (w' := w') ?_ ⟨rfl, Ext.refl _ _⟩
          simp [execOp, h45, h57, Result.andThen, go_sem]
      intro f v g wn hJ hk
      have e58 : g 58 = .bool true := value_u (hk 50 (by decide)) rfl rfl
      clear hk cq
      unfold mkAct; simp only [List.zipIdx_cons, List.zipIdx_nil, List.map_cons, List.map_nil, Nat.zero_add, Nat.reduceAdd, List.contains_cons, List.contains_nil, Nat.reduceBEq, Bool.or_false, Bool.or_true, ↓reduceIte, Bool.false_eq_true]
      rw [e58]
      go_wp2
      go_ret
      exact ⟨rfl, hJ⟩
    · have e2 : decide (k < 0) = false := decide_eq_false h2
      have e3 : (m : Int) ≤ k := (hk.resolve_left h1).resolve_left h2
      clear hk
      go_enter Try.func19, Try.ntmps19
      go_upto_region 1 with fail
      refine wp_region_u [8, 9, 10, 11, 12, 13, 14, 15, 16, 17, 18, 19, 20, 21, 22, 23, 24, 25, 26, 27, 28, 29, 30, 31, 32, 33, 34, 35, 36, 37, 38, 39, 40, 41, 42, 43, 44, 45, 46, 47, 48, 49, 50, 51, 52, 53, 54, 55, 56, 57, 58] [] (fun n => match n with | 0 => .pointer (some ⟨q, 0, none⟩) | 1 => .bool false | 2 => .bool false | 3 => .pointer (some ⟨q, 0, none⟩) | 4 => .pointer (some ⟨q, 0, none⟩) | 5 => .pointer (some ⟨q, 2, none⟩) | 6 => .int .i64 ar | 7 => .bool false | 8 => .bool false | 9 => .bool false | 10 => .int .i64 k | 11 => .bool false | 12 => .bool false | 13 => .bool false | 14 => .int .i64 k | 15 => .pointer (some ⟨q, 0, none⟩) | 16 => .pointer (some ⟨q, 0, none⟩) | 17 => .pointer (some ⟨q, 3, none⟩) | 18 => .pointer (some ⟨q, 6, none⟩) | 19 => .slice sa m sc | 20 => .int .i64 (m : Nat) | 21 => .bool true | 22 => .bool true | 23 => .bool true | 24 => undef | 25 => undef | 26 => undef | 27 => undef | 28 => undef | 29 => undef | 30 => undef | 31 => undef | 32 => undef | 33 => undef | 34 => undef | 35 => undef | 36 => .bool true | 37 => .bool true | 38 => undef | 39 => undef | 40 => undef | 41 => undef | 42 => undef | 43 => undef | 44 => undef | 45 => undef | 46 => undef | 47 => undef | 48 => undef | 49 => undef | 50 => .bool true | _ => undef) (fun f v wx => Ext [] w wx) (by kernel_rfl) (by kernel_rfl) ?hst0_1c ?h00_1c ?hst_1c ?hend_1c
      case hst0_1c =>
        exact fun f v w w' h hx => h.then0 hx
      case h00_1c =>
        exact Ext.refl _ _
      case hst_1c =>
        refine ⟨?f0_1c, ?f1_1c, ?f2_1c, ?f3_1c, ?f4_1c, ?f5_1c, ?f6_1c, ?f7_1c, ?f8_1c, ?f9_1c, ?f10_1c, ?f11_1c, ?f12_1c, ?f13_1c, ?f14_1c, ?f15_1c, ?f16_1c, ?f17_1c, ?f18_1c, ?f19_1c, ?f20_1c, ?f21_1c, ?f22_1c, ?f23_1c, ?f24_1c, ?f25_1c, ?f26_1c, ?f27_1c, ?f28_1c, ?f29_1c, ?f30_1c, ?f31_1c, ?f32_1c, ?f33_1c, ?f34_1c, ?f35_1c, ?f36_1c, ?f37_1c, ?f38_1c, ?f39_1c, ?f40_1c, ?f41_1c, ?f42_1c, ?f43_1c, ?f44_1c, ?f45_1c, ?f46_1c, ?f47_1c, ?f48_1c, ?f49_1c, ?f50_1c, trivial⟩
        case f0_1c =>
          intro f v g w' hJ hfi hb hd
          refine arm_u rfl ?_
          refine op_run rfl ?_
          generalize hA : mkAct _ _ g = A
          have h0 : A.tmps[0]?.getD undef = .pointer (some ⟨q, 0, none⟩) := by rw [← hA]; exact mkAct_out2 _ _ _ _ _ rfl rfl
          refine step_val (v := .pointer (some ⟨q, 0, none⟩)) (w' := w') ?_ ⟨rfl, Ext.refl _ _⟩
          simp [execOp, h0, Result.andThen, go_sem]
        case f1_1c =>
          intro f v g w' hJ hfi hb hd
          refine arm_u rfl ?_
          refine op_run rfl ?_
          have e8 : g 8 = .pointer (some ⟨q, 0, none⟩) := value_u (hd ⟨0, .data⟩ (by simp) rfl) rfl rfl
          generalize hA : mkAct _ _ g = A
          have h8 : A.tmps[8]?.getD undef = .pointer (some ⟨q, 0, none⟩) := by rw [← hA, mkAct_in2 _ _ _ _ rfl rfl]; exact e8
          refine step_val (v := .bool false) (w' := w') ?_ ⟨rfl, Ext.refl _ _⟩
          simp [execOp, h8, Result.andThen, go_sem]
        case f2_1c =>
          intro f v g w' hJ hfi hb hd
          refine arm_u rfl ?_
          refine op_run rfl ?_
          have e9 : g 9 = .bool false := value_u (hd ⟨1, .data⟩ (by simp) rfl) rfl rfl
          generalize hA : mkAct _ _ g = A
          have h9 : A.tmps[9]?.getD undef = .bool false := by rw [← hA, mkAct_in2 _ _ _ _ rfl rfl]; exact e9
          refine step_val (v := .bool false) (w' := w') ?_ ⟨rfl, Ext.refl _ _⟩
          simp [execOp, h9, Result.andThen, go_sem]
        case f3_1c =>
          intro f v g w' hJ hfi hb hd
          refine arm_u rfl ?_
          have eg : g 10 = .bool false := value_u (hd ⟨2, .guard⟩ (by simp) rfl) rfl rfl
          refine op_yes rfl rfl rfl rfl eg ?_
          generalize hA : mkAct _ _ g = A
          have h0 : A.tmps[0]?.getD undef = .pointer (some ⟨q, 0, none⟩) := by rw [← hA]; exact mkAct_out2 _ _ _ _ _ rfl rfl
          refine step_val (v := .pointer (some ⟨q, 0, none⟩)) (w' := w') ?_ ⟨rfl, Ext.refl _ _⟩
          simp [execOp, h0, Result.andThen, go_sem]
        case f4_1c =>
          intro f v g w' hJ hfi hb hd
          refine arm_u rfl ?_
          have eg : g 10 = .bool false := value_u (hd ⟨2, .guard⟩ (by simp) rfl) rfl rfl
          refine op_yes rfl rfl rfl rfl eg ?_
          have e11 : g 11 = .pointer (some ⟨q, 0, none⟩) := value_u (hd ⟨3, .data⟩ (by simp) rfl) rfl rfl
          generalize hA : mkAct _ _ g = A
          have h11 : A.tmps[11]?.getD undef = .pointer (some ⟨q, 0, none⟩) := by rw [← hA, mkAct_in2 _ _ _ _ rfl rfl]; exact e11
          refine step_val (v := .pointer (some ⟨q, 0, none⟩)) (w' := w') ?_ ⟨rfl, Ext.refl _ _⟩
          simp [execOp, h11, Result.andThen, go_sem]
        case f5_1c =>
          intro f v g w' hJ hfi hb hd
          refine arm_u rfl ?_
          have eg : g 10 = .bool false := value_u (hd ⟨2, .guard⟩ (by simp) rfl) rfl rfl
          refine op_yes rfl rfl rfl rfl eg ?_
          have e12 : g 12 = .pointer (some ⟨q, 0, none⟩) := value_u (hd ⟨4, .data⟩ (by simp) rfl) rfl rfl
          generalize hA : mkAct _ _ g = A
          have h12 : A.tmps[12]?.getD undef = .pointer (some ⟨q, 0, none⟩) := by rw [← hA, mkAct_in2 _ _ _ _ rfl rfl]; exact e12
          refine step_val (v := .pointer (some ⟨q, 2, none⟩)) (w' := w') ?_ ⟨rfl, Ext.refl _ _⟩
          simp [execOp, h12, Result.andThen, go_sem]
        case f6_1c =>
          intro f v g w' hJ hfi hb hd
          refine arm_u rfl ?_
          have eg : g 10 = .bool false := value_u (hd ⟨2, .guard⟩ (by simp) rfl) rfl rfl
          refine op_yes rfl rfl rfl rfl eg ?_
          have e13 : g 13 = .pointer (some ⟨q, 2, none⟩) := value_u (hd ⟨5, .data⟩ (by simp) rfl) rfl rfl
          generalize hA : mkAct _ _ g = A
          have h13 : A.tmps[13]?.getD undef = .pointer (some ⟨q, 2, none⟩) := by rw [← hA, mkAct_in2 _ _ _ _ rfl rfl]; exact e13
          have c := (cq w' hJ).2.2.1
          refine step_val (v := .int .i64 ar) (w' := w') ?_ ⟨rfl, Ext.refl _ _⟩
          simp [execOp, h13, c, Result.andThen, go_sem]
        case f7_1c =>
          intro f v g w' hJ hfi hb hd
          refine arm_u rfl ?_
          have eg : g 10 = .bool false := value_u (hd ⟨2, .guard⟩ (by simp) rfl) rfl rfl
          refine op_yes rfl rfl rfl rfl eg ?_
          have e14 : g 14 = .int .i64 ar := value_u (hd ⟨6, .data⟩ (by simp) rfl) rfl rfl
          generalize hA : mkAct _ _ g = A
          have h14 : A.tmps[14]?.getD undef = .int .i64 ar := by rw [← hA, mkAct_in2 _ _ _ _ rfl rfl]; exact e14
          refine step_val (v := .bool false) (w' := w') ?_ ⟨rfl, Ext.refl _ _⟩
          simp [execOp, e1, h14, Result.andThen, go_sem]
        case f8_1c =>
          intro f v g w' hJ hfi hb hd
          refine arm_u rfl ?_
          refine op_run rfl ?_
          have e10 : g 10 = .bool false := value_u (hd ⟨2, .data⟩ (by simp) rfl) rfl rfl
          have e15 : g 15 = .bool false := value_u (hd ⟨7, .data⟩ (by simp) rfl) rfl rfl
          generalize hA : mkAct _ _ g = A
          have h10 : A.tmps[10]?.getD undef = .bool false := by rw [← hA, mkAct_in2 _ _ _ _ rfl rfl]; exact e10
          have h15 : A.tmps[15]?.getD undef = .bool false := by rw [← hA, mkAct_in2 _ _ _ _ rfl rfl]; exact e15
          refine step_val (v := .bool false) (w' := w') ?_ ⟨rfl, Ext.refl _ _⟩
          simp [execOp, h10, h15, Result.andThen, go_sem]
        case f9_1c =>
          intro f v g w' hJ hfi hb hd
          refine arm_u rfl ?_
          refine op_run rfl ?_
          have e16 : g 16 = .bool false := value_u (hd ⟨8, .data⟩ (by simp) rfl) rfl rfl
          generalize hA : mkAct _ _ g = A
          have h16 : A.tmps[16]?.getD undef = .bool false := by rw [← hA, mkAct_in2 _ _ _ _ rfl rfl]; exact e16
          refine step_val (v := .bool false) (w' := w') ?_ ⟨rfl, Ext.refl _ _⟩
          simp [execOp, h16, Result.andThen, go_sem]
        case f10_1c =>
          intro f v g w' hJ hfi hb hd
          refine arm_u rfl ?_
          have eg : g 17 = .bool false := value_u (hd ⟨9, .guard⟩ (by simp) rfl) rfl rfl
          refine op_yes rfl rfl rfl rfl eg ?_
          generalize hA : mkAct _ _ g = A
          have h1 : A.tmps[1]?.getD undef = .int .i64 k := by rw [← hA]; exact mkAct_out2 _ _ _ _ _ rfl rfl
          refine step_val (v := .int .i64 k) (w' := w') ?_ ⟨rfl, Ext.refl _ _⟩
          simp [execOp, h1, Result.andThen, go_sem]
        case f11_1c =>
          intro f v g w' hJ hfi hb hd
          refine arm_u rfl ?_
          have eg : g 17 = .bool false := value_u (hd ⟨9, .guard⟩ (by simp) rfl) rfl rfl
          refine op_yes rfl rfl rfl rfl eg ?_
          have e18 : g 18 = .int .i64 k := value_u (hd ⟨10, .data⟩ (by simp) rfl) rfl rfl
          generalize hA : mkAct _ _ g = A
          have h18 : A.tmps[18]?.getD undef = .int .i64 k := by rw [← hA, mkAct_in2 _ _ _ _ rfl rfl]; exact e18
          refine step_val (v := .bool false) (w' := w') ?_ ⟨rfl, Ext.refl _ _⟩
          simp [execOp, e2, h18, Result.andThen, go_sem]
        case f12_1c =>
          intro f v g w' hJ hfi hb hd
          refine arm_u rfl ?_
          refine op_run rfl ?_
          have e17 : g 17 = .bool false := value_u (hd ⟨9, .data⟩ (by simp) rfl) rfl rfl
          have e19 : g 19 = .bool false := value_u (hd ⟨11, .data⟩ (by simp) rfl) rfl rfl
          generalize hA : mkAct _ _ g = A
          have h17 : A.tmps[17]?.getD undef = .bool false := by rw [← hA, mkAct_in2 _ _ _ _ rfl rfl]; exact e17
          have h19 : A.tmps[19]?.getD undef = .bool false := by rw [← hA, mkAct_in2 _ _ _ _ rfl rfl]; exact e19
          refine step_val (v := .bool false) (w' := w') ?_ ⟨rfl, Ext.refl _ _⟩
          simp [execOp, h17, h19, Result.andThen, go_sem]
        case f13_1c =>
          intro f v g w' hJ hfi hb hd
          refine arm_u rfl ?_
          refine op_run rfl ?_
          have e20 : g 20 = .bool false := value_u (hd ⟨12, .data⟩ (by simp) rfl) rfl rfl
          generalize hA : mkAct _ _ g = A
          have h20 : A.tmps[20]?.getD undef = .bool false := by rw [← hA, mkAct_in2 _ _ _ _ rfl rfl]; exact e20
          refine step_val (v := .bool false) (w' := w') ?_ ⟨rfl, Ext.refl _ _⟩
          simp [execOp, h20, Result.andThen, go_sem]
        case f14_1c =>
          intro f v g w' hJ hfi hb hd
          refine arm_u rfl ?_
          have eg : g 21 = .bool false := value_u (hd ⟨13, .guard⟩ (by simp) rfl) rfl rfl
          refine op_yes rfl rfl rfl rfl eg ?_
          generalize hA : mkAct _ _ g = A
          have h1 : A.tmps[1]?.getD undef = .int .i64 k := by rw [← hA]; exact mkAct_out2 _ _ _ _ _ rfl rfl
          refine step_val (v := .int .i64 k) (w' := w') ?_ ⟨rfl, Ext.refl _ _⟩
          simp [execOp, h1, Result.andThen, go_sem]
        case f15_1c =>
          intro f v g w' hJ hfi hb hd
          refine arm_u rfl ?_
          have eg : g 21 = .bool false := value_u (hd ⟨13, .guard⟩ (by simp) rfl) rfl rfl
          refine op_yes rfl rfl rfl rfl eg ?_
          generalize hA : mkAct _ _ g = A
          have h0 : A.tmps[0]?.getD undef = .pointer (some ⟨q, 0, none⟩) := by rw [← hA]; exact mkAct_out2 _ _ _ _ _ rfl rfl
          refine step_val (v := .pointer (some ⟨q, 0, none⟩)) (w' := w') ?_ ⟨rfl, Ext.refl _ _⟩
          simp [execOp, h0, Result.andThen, go_sem]
        case f16_1c =>
          intro f v g w' hJ hfi hb hd
          refine arm_u rfl ?_
          have eg : g 21 = .bool false := value_u (hd ⟨13, .guard⟩ (by simp) rfl) rfl rfl
          refine op_yes rfl rfl rfl rfl eg ?_
          have e23 : g 23 = .pointer (some ⟨q, 0, none⟩) := value_u (hd ⟨15, .data⟩ (by simp) rfl) rfl rfl
          generalize hA : mkAct _ _ g = A
          have h23 : A.tmps[23]?.getD undef = .pointer (some ⟨q, 0, none⟩) := by rw [← hA, mkAct_in2 _ _ _ _ rfl rfl]; exact e23
          refine step_val (v := .pointer (some ⟨q, 0, none⟩)) (w' := w') ?_ ⟨rfl, Ext.refl _ _⟩
          simp [execOp, h23, Result.andThen, go_sem]
        case f17_1c =>
          intro f v g w' hJ hfi hb hd
          refine arm_u rfl ?_
          have eg : g 21 = .bool false := value_u (hd ⟨13, .guard⟩ (by simp) rfl) rfl rfl
          refine op_yes rfl rfl rfl rfl eg ?_
          have e24 : g 24 = .pointer (some ⟨q, 0, none⟩) := value_u (hd ⟨16, .data⟩ (by simp) rfl) rfl rfl
          generalize hA : mkAct _ _ g = A
          have h24 : A.tmps[24]?.getD undef = .pointer (some ⟨q, 0, none⟩) := by rw [← hA, mkAct_in2 _ _ _ _ rfl rfl]; exact e24
          refine step_val (v := .pointer (some ⟨q, 3, none⟩)) (w' := w') ?_ ⟨rfl, Ext.refl _ _⟩
          simp [execOp, h24, Result.andThen, go_sem]
        case f18_1c =>
          intro f v g w' hJ hfi hb hd
          refine arm_u rfl ?_
          have eg : g 21 = .bool false := value_u (hd ⟨13, .guard⟩ (by simp) rfl) rfl rfl
          refine op_yes rfl rfl rfl rfl eg ?_
          have e25 : g 25 = .pointer (some ⟨q, 3, none⟩) := value_u (hd ⟨17, .data⟩ (by simp) rfl) rfl rfl
          generalize hA : mkAct _ _ g = A
          have h25 : A.tmps[25]?.getD undef = .pointer (some ⟨q, 3, none⟩) := by rw [← hA, mkAct_in2 _ _ _ _ rfl rfl]; exact e25
          refine step_val (v := .pointer (some ⟨q, 6, none⟩)) (w' := w') ?_ ⟨rfl, Ext.refl _ _⟩
          simp [execOp, h25, Result.andThen, go_sem]
        case f19_1c =>
          intro f v g w' hJ hfi hb hd
          refine arm_u rfl ?_
          have eg : g 21 = .bool false := value_u (hd ⟨13, .guard⟩ (by simp) rfl) rfl rfl
          refine op_yes rfl rfl rfl rfl eg ?_
          have e26 : g 26 = .pointer (some ⟨q, 6, none⟩) := value_u (hd ⟨18, .data⟩ (by simp) rfl) rfl rfl
          generalize hA : mkAct _ _ g = A
          have h26 : A.tmps[26]?.getD undef = .pointer (some ⟨q, 6, none⟩) := by rw [← hA, mkAct_in2 _ _ _ _ rfl rfl]; exact e26
          have c := (cq w' hJ).2.2.2.2.2.2
          refine step_val (v := .slice sa m sc) (w' := w') ?_ ⟨rfl, Ext.refl _ _⟩
          simp [execOp, h26, c, Result.andThen, go_sem]
        case f20_1c =>
          intro f v g w' hJ hfi hb hd
          refine arm_u rfl ?_
          have eg : g 21 = .bool false := value_u (hd ⟨13, .guard⟩ (by simp) rfl) rfl rfl
          refine op_yes rfl rfl rfl rfl eg ?_
          have e27 : g 27 = .slice sa m sc := value_u (hd ⟨19, .data⟩ (by simp) rfl) rfl rfl
          generalize hA : mkAct _ _ g = A
          have h27 : A.tmps[27]?.getD undef = .slice sa m sc := by rw [← hA, mkAct_in2 _ _ _ _ rfl rfl]; exact e27
          refine step_val (v := .int .i64 (m : Nat)) (w' := w') ?_ ⟨rfl, Ext.refl _ _⟩
          simp [execOp, h27, Result.andThen, go_sem]
        case f21_1c =>
          intro f v g w' hJ hfi hb hd
          refine arm_u rfl ?_
          have eg : g 21 = .bool false := value_u (hd ⟨13, .guard⟩ (by simp) rfl) rfl rfl
          refine op_yes rfl rfl rfl rfl eg ?_
          have e22 : g 22 = .int .i64 k := value_u (hd ⟨14, .data⟩ (by simp) rfl) rfl rfl
          have e28 : g 28 = .int .i64 (m : Nat) := value_u (hd ⟨20, .data⟩ (by simp) rfl) rfl rfl
          generalize hA : mkAct _ _ g = A
          have h22 : A.tmps[22]?.getD undef = .int .i64 k := by rw [← hA, mkAct_in2 _ _ _ _ rfl rfl]; exact e22
          have h28 : A.tmps[28]?.getD undef = .int .i64 (m : Nat) := by rw [← hA, mkAct_in2 _ _ _ _ rfl rfl]; exact e28
          refine step_val (v := .bool true) (w' := w') ?_ ⟨rfl, Ext.refl _ _⟩
          simp [execOp, e3, h22, h28, Result.andThen, go_sem]
        case f22_1c =>
          intro f v g w' hJ hfi hb hd
          refine arm_u rfl ?_
          refine op_run rfl ?_
          have e21 : g 21 = .bool false := value_u (hd ⟨13, .data⟩ (by simp) rfl) rfl rfl
          have e29 : g 29 = .bool true := value_u (hd ⟨21, .data⟩ (by simp) rfl) rfl rfl
          generalize hA : mkAct _ _ g = A
          have h21 : A.tmps[21]?.getD undef = .bool false := by rw [← hA, mkAct_in2 _ _ _ _ rfl rfl]; exact e21
          have h29 : A.tmps[29]?.getD undef = .bool true := by rw [← hA, mkAct_in2 _ _ _ _ rfl rfl]; exact e29
          refine step_val (v := .bool true) (w' := w') ?_ ⟨rfl, Ext.refl _ _⟩
          simp [execOp, h21, h29, Result.andThen, go_sem]
        case f23_1c =>
          intro f v g w' hJ hfi hb hd
          refine arm_u rfl ?_
          refine op_run rfl ?_
          have e30 : g 30 = .bool true := value_u (hd ⟨22, .data⟩ (by simp) rfl) rfl rfl
          generalize hA : mkAct _ _ g = A
          have h30 : A.tmps[30]?.getD undef = .bool true := by rw [← hA, mkAct_in2 _ _ _ _ rfl rfl]; exact e30
          refine step_val (v := .bool true) (w' := w') ?_ ⟨rfl, Ext.refl _ _⟩
          simp [execOp, h30, Result.andThen, go_sem]
        case f24_1c =>
          intro f v g w' hJ hfi hb hd
          refine arm_u rfl ?_
          have eg : g 31 = .bool true := value_u (hd ⟨23, .guard⟩ (by simp) rfl) rfl rfl
          exact op_no rfl rfl rfl rfl true eg (by decide) ⟨rfl, Ext.refl _ _⟩
        case f25_1c =>
          intro f v g w' hJ hfi hb hd
          refine arm_u rfl ?_
          have eg : g 31 = .bool true := value_u (hd ⟨23, .guard⟩ (by simp) rfl) rfl rfl
          exact op_no rfl rfl rfl rfl true eg (by decide) ⟨rfl, Ext.refl _ _⟩
        case f26_1c =>
          intro f v g w' hJ hfi hb hd
          refine arm_u rfl ?_
          have eg : g 31 = .bool true := value_u (hd ⟨23, .guard⟩ (by simp) rfl) rfl rfl
          exact op_no rfl rfl rfl rfl true eg (by decide) ⟨rfl, Ext.refl _ _⟩
        case f27_1c =>
          intro f v g w' hJ hfi hb hd
          refine arm_u rfl ?_
          have eg : g 31 = .bool true := value_u (hd ⟨23, .guard⟩ (by simp) rfl) rfl rfl
          exact op_no rfl rfl rfl rfl true eg (by decide) ⟨rfl, Ext.refl _ _⟩
        case f28_1c =>
          intro f v g w' hJ hfi hb hd
          refine arm_u rfl ?_
          have eg : g 31 = .bool true := value_u (hd ⟨23, .guard⟩ (by simp) rfl) rfl rfl
          exact op_no rfl rfl rfl rfl true eg (by decide) ⟨rfl, Ext.refl _ _⟩
        case f29_1c =>
          intro f v g w' hJ hfi hb hd
          refine arm_u rfl ?_
          have eg : g 31 = .bool true := value_u (hd ⟨23, .guard⟩ (by simp) rfl) rfl rfl
          exact op_no rfl rfl rfl rfl true eg (by decide) ⟨rfl, Ext.refl _ _⟩
        case f30_1c =>
          intro f v g w' hJ hfi hb hd
          refine arm_u rfl ?_
          have eg : g 31 = .bool true := value_u (hd ⟨23, .guard⟩ (by simp) rfl) rfl rfl
          exact op_no rfl rfl rfl rfl true eg (by decide) ⟨rfl, Ext.refl _ _⟩
        case f31_1c =>
          intro f v g w' hJ hfi hb hd
          refine arm_u rfl ?_
          have eg : g 31 = .bool true := value_u (hd ⟨23, .guard⟩ (by simp) rfl) rfl rfl
          exact op_no rfl rfl rfl rfl true eg (by decide) ⟨rfl, Ext.refl _ _⟩
        case f32_1c =>
          intro f v g w' hJ hfi hb hd
          refine arm_u rfl ?_
          have eg : g 31 = .bool true := value_u (hd ⟨23, .guard⟩ (by simp) rfl) rfl rfl
          exact op_no rfl rfl rfl rfl true eg (by decide) ⟨rfl, Ext.refl _ _⟩
        case f33_1c =>
          intro f v g w' hJ hfi hb hd
          refine arm_u rfl ?_
          have eg : g 31 = .bool true := value_u (hd ⟨23, .guard⟩ (by simp) rfl) rfl rfl
          exact op_no rfl rfl rfl rfl true eg (by decide) ⟨rfl, Ext.refl _ _⟩
        case f34_1c =>
          intro f v g w' hJ hfi hb hd
          refine arm_u rfl ?_
          have eg : g 31 = .bool true := value_u (hd ⟨23, .guard⟩ (by simp) rfl) rfl rfl
          exact op_no rfl rfl rfl rfl true eg (by decide) ⟨rfl, Ext.refl _ _⟩
        case f35_1c =>
          intro f v g w' hJ hfi hb hd
          refine arm_u rfl ?_
          have eg : g 31 = .bool true := value_u (hd ⟨23, .guard⟩ (by simp) rfl) rfl rfl
          exact op_no rfl rfl rfl rfl true eg (by decide) ⟨rfl, Ext.refl _ _⟩
        case f36_1c =>
          intro f v g w' hJ hfi hb hd
          refine arm_u rfl ?_
          refine op_run rfl ?_
          have e31 : g 31 = .bool true := value_u (hd ⟨23, .data⟩ (by simp) rfl) rfl rfl
          have e43 : g 43 = undef := value_u (hd ⟨35, .data⟩ (by simp) rfl) rfl rfl
          generalize hA : mkAct _ _ g = A
          have h31 : A.tmps[31]?.getD undef = .bool true := by rw [← hA, mkAct_in2 _ _ _ _ rfl rfl]; exact e31
          have h43 : A.tmps[43]?.getD undef = undef := by rw [← hA, mkAct_in2 _ _ _ _ rfl rfl]; exact e43
          refine step_val (v := .bool true) (w' := w') ?_ ⟨rfl, Ext.refl _ _⟩
          simp [execOp, h31, h43, Result.andThen, go_sem]
        case f37_1c =>
          intro f v g w' hJ hfi hb hd
          refine arm_u rfl ?_
          refine op_run rfl ?_
          have e44 : g 44 = .bool true := value_u (hd ⟨36, .data⟩ (by simp) rfl) rfl rfl
          generalize hA : mkAct _ _ g = A
          have h44 : A.tmps[44]?.getD undef = .bool true := by rw [← hA, mkAct_in2 _ _ _ _ rfl rfl]; exact e44
          refine step_val (v := .bool true) (w' := w') ?_ ⟨rfl, Ext.refl _ _⟩
          simp [execOp, h44, Result.andThen, go_sem]
        case f38_1c =>
          intro f v g w' hJ hfi hb hd
          refine arm_u rfl ?_
          have eg : g 45 = .bool true := value_u (hd ⟨37, .guard⟩ (by simp) rfl) rfl rfl
          exact op_no rfl rfl rfl rfl true eg (by decide) ⟨rfl, Ext.refl _ _⟩
        case f39_1c =>
          intro f v g w' hJ hfi hb hd
          refine arm_u rfl ?_
          have eg : g 45 = .bool true := value_u (hd ⟨37, .guard⟩ (by simp) rfl) rfl rfl
          exact op_no rfl rfl rfl rfl true eg (by decide) ⟨rfl, Ext.refl _ _⟩
        case f40_1c =>
          intro f v g w' hJ hfi hb hd
          refine arm_u rfl ?_
          have eg : g 45 = .bool true := value_u (hd ⟨37, .guard⟩ (by simp) rfl) rfl rfl
          exact op_no rfl rfl rfl rfl true eg (by decide) ⟨rfl, Ext.refl _ _⟩
        case f41_1c =>
          intro f v g w' hJ hfi hb hd
          refine arm_u rfl ?_
          have eg : g 45 = .bool true := value_u (hd ⟨37, .guard⟩ (by simp) rfl) rfl rfl
          exact op_no rfl rfl rfl rfl true eg (by decide) ⟨rfl, Ext.refl _ _⟩
        case f42_1c =>
          intro f v g w' hJ hfi hb hd
          refine arm_u rfl ?_
          have eg : g 45 = .bool true := value_u (hd ⟨37, .guard⟩ (by simp) rfl) rfl rfl
          exact op_no rfl rfl rfl rfl true eg (by decide) ⟨rfl, Ext.refl _ _⟩
        case f43_1c =>
          intro f v g w' hJ hfi hb hd
          refine arm_u rfl ?_
          have eg : g 45 = .bool true := value_u (hd ⟨37, .guard⟩ (by simp) rfl) rfl rfl
          exact op_no rfl rfl rfl rfl true eg (by decide) ⟨rfl, Ext.refl _ _⟩
        case f44_1c =>
          intro f v g w' hJ hfi hb hd
          refine arm_u rfl ?_
          have eg : g 45 = .bool true := value_u (hd ⟨37, .guard⟩ (by simp) rfl) rfl rfl
          exact op_no rfl rfl rfl rfl true eg (by decide) ⟨rfl, Ext.refl _ _⟩
        case f45_1c =>
          intro f v g w' hJ hfi hb hd
          refine arm_u rfl ?_
          have eg : g 45 = .bool true := value_u (hd ⟨37, .guard⟩ (by simp) rfl) rfl rfl
          exact op_no rfl rfl rfl rfl true eg (by decide) ⟨rfl, Ext.refl _ _⟩
        case f46_1c =>
          intro f v g w' hJ hfi hb hd
          refine arm_u rfl ?_
          have eg : g 45 = .bool true := value_u (hd ⟨37, .guard⟩ (by simp) rfl) rfl rfl
          exact op_no rfl rfl rfl rfl true eg (by decide) ⟨rfl, Ext.refl _ _⟩
        case f47_1c =>
          intro f v g w' hJ hfi hb hd
          refine arm_u rfl ?_
          have eg : g 45 = .bool true := value_u (hd ⟨37, .guard⟩ (by simp) rfl) rfl rfl
          exact op_no rfl rfl rfl rfl true eg (by decide) ⟨rfl, Ext.refl _ _⟩
        case f48_1c =>
          intro f v g w' hJ hfi hb hd
          refine arm_u rfl ?_
          have eg : g 45 = .bool true := value_u (hd ⟨37, .guard⟩ (by simp) rfl) rfl rfl
          exact op_no rfl rfl rfl rfl true eg (by decide) ⟨rfl, Ext.refl _ _⟩
        case f49_1c =>
          intro f v g w' hJ hfi hb hd
          refine arm_u rfl ?_
          have eg : g 45 = .bool true := value_u (hd ⟨37, .guard⟩ (by simp) rfl) rfl rfl
          exact op_no rfl rfl rfl rfl true eg (by decide) ⟨rfl, Ext.refl _ _⟩
        case f50_1c =>
          intro f v g w' hJ hfi hb hd
          refine arm_u rfl ?_
          refine op_run rfl ?_
          have e45 : g 45 = .bool true := value_u (hd ⟨37, .data⟩ (by simp) rfl) rfl rfl
          have e57 : g 57 = undef := value_u (hd ⟨49, .data⟩ (by simp) rfl) rfl rfl
          generalize hA : mkAct _ _ g = A
          have h45 : A.tmps[45]?.getD undef = .bool true := by rw [← hA, mkAct_in2 _ _ _ _ rfl rfl]; exact e45
          have h57 : A.tmps[57]?.getD undef = undef := by rw [← hA, mkAct_in2 _ _ _ _ rfl rfl]; exact e57
          refine step_val (v := .bool true) (w' := w') ?_ ⟨rfl, Ext.refl _ _⟩
          simp [execOp, h45, h57, Result.andThen, go_sem]
      intro f v g wn hJ hk
      have e58 : g 58 = .bool true := value_u (hk 50 (by decide)) rfl rfl
      clear hk cq
      unfold mkAct; simp only [List.zipIdx_cons, List.zipIdx_nil, List.map_cons, List.map_nil, Nat.zero_add, Nat.reduceAdd, List.contains_cons, List.contains_nil, Nat.reduceBEq, Bool.or_false, Bool.or_true, ↓reduceIte, Bool.false_eq_true]
      rw [e58]
      go_wp2
      go_ret
      exact ⟨rfl, hJ⟩
set_option maxRecDepth 100000 in
set_option maxHeartbeats 25600000 in
theorem mend_in (h : StM w0 w q b sv D s n0 O) (k : Int) (d : List UInt8) (hd : d.length ≤ 1000000) (hk : ¬ (s.area < 0 ∨ k < 0 ∨ (s.list.sums.length : Int) ≤ k)) (hlen : D.since.length ≤ 900000) :
    Calls Try.prog 19 #[.pointer (some ⟨q, 0, none⟩), .int .i64 k, str d] w fun e w' => e = .returned (.int .i64 (mendX s k d D).1) ∧ StM w0 w' q b sv (mendX s k d D).2 s n0 O ∧ Kept O w w' := by
  have H := Hid.of h
  have HLen := Hid.of hlen
  have hk0 : ¬ s.area < 0 := fun hh => hk (.inl hh)
  have hk1 : ¬ k < 0 := fun hh => hk (.inr (.inl hh))
  have hk2 : k < s.list.sums.length := by omega
  have hl := h.ok.len
  have har : s.area ≤ 1 := by have := h.ok.area; omega
  have hb1 := h.ok.base
  have hb2 := h.ok.fit
  have hb3 := h.ok.big
  have HB0 : Hid (0 ≤ s.base ∧ s.base ≤ 4096) := Hid.of ⟨hb1, by omega⟩
  obtain ⟨kn, rfl⟩ : ∃ kn : Nat, k = kn := ⟨k.toNat, by omega⟩
  have hkl : kn < s.list.sums.length := by omega
  obtain ⟨g0, off, hsv, hgw, hcs⟩ : ∃ g0 off, (∃ cap, sv = .slice (some ⟨g0, off, none⟩) s.list.sums.length cap) ∧ g0 < w.heap.size ∧ ∀ j u, (s.list.sums.map u32c)[j]? = some u → w.cell? ⟨g0, off + j, none⟩ = some u := by
    obtain ⟨a, cap, rfl⟩ := Rd.isSlice h.sums
    obtain ⟨g, off, rfl, hg, hc⟩ := Rd.view h.sums (by omega)
    exact ⟨g, off, ⟨cap, rfl⟩, hg, hc⟩
  obtain ⟨cap, rfl⟩ := hsv
  have hsc := hcs kn (u32c s.list.sums[kn]) (by rw [List.getElem?_map, List.getElem?_eq_getElem hkl]; rfl)
  have cs := fun w' (hx : Ext [] w w') => hx.cell (p := ⟨g0, off + kn, none⟩) (by simp) hsc
  have cq := fun w' (hx : Ext [] w w') => StB.cells (Blk.keep h.blk hx (by simp) : StB w' q b _ s)
  have hgd : s.list.sums.getD (kn : Int).toNat 0 = s.list.sums[kn] := by
    have e : (kn : Int).toNat = kn := by omega
    rw [e]; simp [List.getD, hkl]
  have HMX : Hid (mendX s kn d D = if sumOf d = s.list.sums[kn] ∧ (d.length : Int) = min 400 (s.list.bytes - (kn : Int) * 400) then wrf [(s.b s.area (2 + (kn : Int)), ⟨5, s.list.idx, kn, d⟩)] D else (1, D)) := Hid.of (by
    unfold mendX
    by_cases hc : sumOf d = s.list.sums[kn] ∧ (d.length : Int) = min 400 (s.list.bytes - (kn : Int) * 400)
    · rw [if_pos (show mendOk s kn d from ⟨hk, hc.1.trans hgd.symm, hc.2⟩), if_pos hc]; rfl
    · rw [if_neg (fun h : mendOk s kn d => hc ⟨h.2.1.trans hgd, h.2.2⟩), if_neg hc])
  have HRt : Hid (s.list.right) := Hid.of (h.ok.has (by omega))
  have hcapl : (s.list.sums.length : Int) ≤ 64 := by omega
  unfold u32c at cs
  have hU := Hid.of (fun x => @u32v_inj x s.list.sums[kn])
  obtain ⟨MX, hMX⟩ : ∃ x, x = mendX s kn d D := ⟨_, rfl⟩
  rw [← hMX] at HMX ⊢
  clear hsc hgd hcs hMX h hlen hk
  generalize hsm : s.list.sums[kn] = sm at cs HMX hU
  clear hsm
  have hblen : 0 ≤ s.list.bytes ∧ s.list.bytes ≤ 25600 := ⟨hl.2.1, hl.2.2.1⟩
  have e1 : decide (s.area < 0) = false := decide_eq_false hk0
  have e2 : decide ((kn : Int) < 0) = false := decide_eq_false hk1
  have e3 : decide ((s.list.sums.length : Int) ≤ (kn : Int)) = false := decide_eq_false (by omega)
  clear hl
  go_enter Try.func19, Try.ntmps19
  go_upto_region 1 with fail
  by_cases e5 : sumOf d = sm
  · by_cases e6 : (d.length : Int) = min 400 (s.list.bytes - (kn : Int) * 400)
    · have HM2 := Hid.of (HMX.out.trans (if_pos ⟨e5, e6⟩))
      clear HMX
      subst e5
      refine wp_region_u [8, 9, 10, 11, 12, 13, 14, 15, 16, 17, 18, 19, 20, 21, 22, 23, 24, 25, 26, 27, 28, 29, 30, 31, 32, 33, 34, 35, 36, 37, 38, 39, 40, 41, 42, 43, 44, 45, 46, 47, 48, 49, 50, 51, 52, 53, 54, 55, 56, 57, 58] [25] (fun n => match n with | 0 => .pointer (some ⟨q, 0, none⟩) | 1 => .bool false | 2 => .bool false | 3 => .pointer (some ⟨q, 0, none⟩) | 4 => .pointer (some ⟨q, 0, none⟩) | 5 => .pointer (some ⟨q, 2, none⟩) | 6 => .int .i64 s.area | 7 => .bool false | 8 => .bool false | 9 => .bool false | 10 => .int .i64 (kn : Int) | 11 => .bool false | 12 => .bool false | 13 => .bool false | 14 => .int .i64 (kn : Int) | 15 => .pointer (some ⟨q, 0, none⟩) | 16 => .pointer (some ⟨q, 0, none⟩) | 17 => .pointer (some ⟨q, 3, none⟩) | 18 => .pointer (some ⟨q, 6, none⟩) | 19 => .slice (some ⟨g0, off, none⟩) s.list.sums.length cap | 20 => .int .i64 (s.list.sums.length : Nat) | 21 => .bool false | 22 => .bool false | 23 => .bool false | 24 => .string ⟨d.toArray⟩ | 26 => .int .u32 (u32v (sumOf d)) | 27 => .pointer (some ⟨q, 0, none⟩) | 28 => .pointer (some ⟨q, 0, none⟩) | 29 => .pointer (some ⟨q, 3, none⟩) | 30 => .pointer (some ⟨q, 6, none⟩) | 31 => .slice (some ⟨g0, off, none⟩) s.list.sums.length cap | 32 => .int .i64 (kn : Int) | 33 => .pointer (some ⟨g0, off + kn, none⟩) | 34 => .int .u32 (u32v (sumOf d)) | 35 => .bool false | 36 => .bool false | 37 => .bool false | 38 => .string ⟨d.toArray⟩ | 39 => .int .i64 (d.length : Int) | 40 => .pointer (some ⟨q, 0, none⟩) | 41 => .pointer (some ⟨q, 0, none⟩) | 42 => .pointer (some ⟨q, 3, none⟩) | 43 => .pointer (some ⟨q, 5, none⟩) | 44 => .int .i64 s.list.bytes | 45 => .int .i64 (kn : Int) | 46 => .int .i64 ((kn : Int) * 400) | 47 => .int .i64 (s.list.bytes - (kn : Int) * 400) | 48 => .int .i64 (min 400 (s.list.bytes - (kn : Int) * 400)) | 49 => .bool false | 50 => .bool false | _ => undef) (fun f v wx => Ext [] w wx ∧ (f 25 = true → ∃ z, v 25 = .slice (some ⟨z, 0, none⟩) 1 1 ∧ Blk wx z 9 [str d])) (by kernel_rfl) (by kernel_rfl) ?hst0_1f ?h00_1f ?hst_1f ?hend_1f
      case hst0_1f =>
        rintro f v w w' ⟨hx, j3⟩ hx2
        refine ⟨hx.then0 hx2, fun h => ?_⟩
        obtain ⟨z, ez, hz⟩ := j3 h
        exact ⟨z, ez, Blk.keep hz hx2 List.not_mem_nil⟩
      case h00_1f =>
        exact ⟨Ext.refl _ _, fun h => (by cases h)⟩
      case hst_1f =>
        refine ⟨?f0_1f, ?f1_1f, ?f2_1f, ?f3_1f, ?f4_1f, ?f5_1f, ?f6_1f, ?f7_1f, ?f8_1f, ?f9_1f, ?f10_1f, ?f11_1f, ?f12_1f, ?f13_1f, ?f14_1f, ?f15_1f, ?f16_1f, ?f17_1f, ?f18_1f, ?f19_1f, ?f20_1f, ?f21_1f, ?f22_1f, ?f23_1f, ?f24_1f, ?f25_1f, ?f26_1f, ?f27_1f, ?f28_1f, ?f29_1f, ?f30_1f, ?f31_1f, ?f32_1f, ?f33_1f, ?f34_1f, ?f35_1f, ?f36_1f, ?f37_1f, ?f38_1f, ?f39_1f, ?f40_1f, ?f41_1f, ?f42_1f, ?f43_1f, ?f44_1f, ?f45_1f, ?f46_1f, ?f47_1f, ?f48_1f, ?f49_1f, ?f50_1f, trivial⟩
        case f0_1f =>
          intro f v g w' hJ hfi hb hd
          refine arm_u rfl ?_
          refine op_run rfl ?_
          generalize hA : mkAct _ _ g = A
          have h0 : A.tmps[0]?.getD undef = .pointer (some ⟨q, 0, none⟩) := by rw [← hA]; exact mkAct_out2 _ _ _ _ _ rfl rfl
          refine step_val (v := .pointer (some ⟨q, 0, none⟩)) (w' := w') ?_ ⟨rfl, Ext.refl _ _⟩
          simp [execOp, h0, Result.andThen, go_sem]
        case f1_1f =>
          intro f v g w' hJ hfi hb hd
          refine arm_u rfl ?_
          refine op_run rfl ?_
          have e8 : g 8 = .pointer (some ⟨q, 0, none⟩) := value_u (hd ⟨0, .data⟩ (by simp) rfl) rfl rfl
          generalize hA : mkAct _ _ g = A
          have h8 : A.tmps[8]?.getD undef = .pointer (some ⟨q, 0, none⟩) := by rw [← hA, mkAct_in2 _ _ _ _ rfl rfl]; exact e8
          refine step_val (v := .bool false) (w' := w') ?_ ⟨rfl, Ext.refl _ _⟩
          simp [execOp, h8, Result.andThen, go_sem]
        case f2_1f =>
          intro f v g w' hJ hfi hb hd
          refine arm_u rfl ?_
          refine op_run rfl ?_
          have e9 : g 9 = .bool false := value_u (hd ⟨1, .data⟩ (by simp) rfl) rfl rfl
          generalize hA : mkAct _ _ g = A
          have h9 : A.tmps[9]?.getD undef = .bool false := by rw [← hA, mkAct_in2 _ _ _ _ rfl rfl]; exact e9
          refine step_val (v := .bool false) (w' := w') ?_ ⟨rfl, Ext.refl _ _⟩
          simp [execOp, h9, Result.andThen, go_sem]
        case f3_1f =>
          intro f v g w' hJ hfi hb hd
          refine arm_u rfl ?_
          have eg : g 10 = .bool false := value_u (hd ⟨2, .guard⟩ (by simp) rfl) rfl rfl
          refine op_yes rfl rfl rfl rfl eg ?_
          generalize hA : mkAct _ _ g = A
          have h0 : A.tmps[0]?.getD undef = .pointer (some ⟨q, 0, none⟩) := by rw [← hA]; exact mkAct_out2 _ _ _ _ _ rfl rfl
          refine step_val (v := .pointer (some ⟨q, 0, none⟩)) (w' := w') ?_ ⟨rfl, Ext.refl _ _⟩
          simp [execOp, h0, Result.andThen, go_sem]
        case f4_1f =>
          intro f v g w' hJ hfi hb hd
          refine arm_u rfl ?_
          have eg : g 10 = .bool false := value_u (hd ⟨2, .guard⟩ (by simp) rfl) rfl rfl
          refine op_yes rfl rfl rfl rfl eg ?_
          have e11 : g 11 = .pointer (some ⟨q, 0, none⟩) := value_u (hd ⟨3, .data⟩ (by simp) rfl) rfl rfl
          generalize hA : mkAct _ _ g = A
          have h11 : A.tmps[11]?.getD undef = .pointer (some ⟨q, 0, none⟩) := by rw [← hA, mkAct_in2 _ _ _ _ rfl rfl]; exact e11
          refine step_val (v := .pointer (some ⟨q, 0, none⟩)) (w' := w') ?_ ⟨rfl, Ext.refl _ _⟩
          simp [execOp, h11, Result.andThen, go_sem]
        case f5_1f =>
          intro f v g w' hJ hfi hb hd
          refine arm_u rfl ?_
          have eg : g 10 = .bool false := value_u (hd ⟨2, .guard⟩ (by simp) rfl) rfl rfl
          refine op_yes rfl rfl rfl rfl eg ?_
          have e12 : g 12 = .pointer (some ⟨q, 0, none⟩) := value_u (hd ⟨4, .data⟩ (by simp) rfl) rfl rfl
          generalize hA : mkAct _ _ g = A
          have h12 : A.tmps[12]?.getD undef = .pointer (some ⟨q, 0, none⟩) := by rw [← hA, mkAct_in2 _ _ _ _ rfl rfl]; exact e12
          refine step_val (v := .pointer (some ⟨q, 2, none⟩)) (w' := w') ?_ ⟨rfl, Ext.refl _ _⟩
          simp [execOp, h12, Result.andThen, go_sem]
        case f6_1f =>
          intro f v g w' hJ hfi hb hd
          refine arm_u rfl ?_
          have eg : g 10 = .bool false := value_u (hd ⟨2, .guard⟩ (by simp) rfl) rfl rfl
          refine op_yes rfl rfl rfl rfl eg ?_
          have e13 : g 13 = .pointer (some ⟨q, 2, none⟩) := value_u (hd ⟨5, .data⟩ (by simp) rfl) rfl rfl
          generalize hA : mkAct _ _ g = A
          have h13 : A.tmps[13]?.getD undef = .pointer (some ⟨q, 2, none⟩) := by rw [← hA, mkAct_in2 _ _ _ _ rfl rfl]; exact e13
          have c := (cq w' hJ.1).2.2.1
          refine step_val (v := .int .i64 s.area) (w' := w') ?_ ⟨rfl, Ext.refl _ _⟩
          simp [execOp, h13, c, Result.andThen, go_sem]
        case f7_1f =>
          intro f v g w' hJ hfi hb hd
          refine arm_u rfl ?_
          have eg : g 10 = .bool false := value_u (hd ⟨2, .guard⟩ (by simp) rfl) rfl rfl
          refine op_yes rfl rfl rfl rfl eg ?_
          have e14 : g 14 = .int .i64 s.area := value_u (hd ⟨6, .data⟩ (by simp) rfl) rfl rfl
          generalize hA : mkAct _ _ g = A
          have h14 : A.tmps[14]?.getD undef = .int .i64 s.area := by rw [← hA, mkAct_in2 _ _ _ _ rfl rfl]; exact e14
          refine step_val (v := .bool false) (w' := w') ?_ ⟨rfl, Ext.refl _ _⟩
          simp [execOp, e1, h14, Result.andThen, go_sem]
        case f8_1f =>
          intro f v g w' hJ hfi hb hd
          refine arm_u rfl ?_
          refine op_run rfl ?_
          have e10 : g 10 = .bool false := value_u (hd ⟨2, .data⟩ (by simp) rfl) rfl rfl
          have e15 : g 15 = .bool false := value_u (hd ⟨7, .data⟩ (by simp) rfl) rfl rfl
          generalize hA : mkAct _ _ g = A
          have h10 : A.tmps[10]?.getD undef = .bool false := by rw [← hA, mkAct_in2 _ _ _ _ rfl rfl]; exact e10
          have h15 : A.tmps[15]?.getD undef = .bool false := by rw [← hA, mkAct_in2 _ _ _ _ rfl rfl]; exact e15
          refine step_val (v := .bool false) (w' := w') ?_ ⟨rfl, Ext.refl _ _⟩
          simp [execOp, h10, h15, Result.andThen, go_sem]
        case f9_1f =>
          intro f v g w' hJ hfi hb hd
          refine arm_u rfl ?_
          refine op_run rfl ?_
          have e16 : g 16 = .bool false := value_u (hd ⟨8, .data⟩ (by simp) rfl) rfl rfl
          generalize hA : mkAct _ _ g = A
          have h16 : A.tmps[16]?.getD undef = .bool false := by rw [← hA, mkAct_in2 _ _ _ _ rfl rfl]; exact e16
          refine step_val (v := .bool false) (w' := w') ?_ ⟨rfl, Ext.refl _ _⟩
          simp [execOp, h16, Result.andThen, go_sem]
        case f10_1f =>
          intro f v g w' hJ hfi hb hd
          refine arm_u rfl ?_
          have eg : g 17 = .bool false := value_u (hd ⟨9, .guard⟩ (by simp) rfl) rfl rfl
          refine op_yes rfl rfl rfl rfl eg ?_
          generalize hA : mkAct _ _ g = A
          have h1 : A.tmps[1]?.getD undef = .int .i64 (kn : Int) := by rw [← hA]; exact mkAct_out2 _ _ _ _ _ rfl rfl
          refine step_val (v := .int .i64 (kn : Int)) (w' := w') ?_ ⟨rfl, Ext.refl _ _⟩
          simp [execOp, h1, Result.andThen, go_sem]
        case f11_1f =>
          intro f v g w' hJ hfi hb hd
          refine arm_u rfl ?_
          have eg : g 17 = .bool false := value_u (hd ⟨9, .guard⟩ (by simp) rfl) rfl rfl
          refine op_yes rfl rfl rfl rfl eg ?_
          have e18 : g 18 = .int .i64 (kn : Int) := value_u (hd ⟨10, .data⟩ (by simp) rfl) rfl rfl
          generalize hA : mkAct _ _ g = A
          have h18 : A.tmps[18]?.getD undef = .int .i64 (kn : Int) := by rw [← hA, mkAct_in2 _ _ _ _ rfl rfl]; exact e18
          refine step_val (v := .bool false) (w' := w') ?_ ⟨rfl, Ext.refl _ _⟩
          simp [execOp, e2, h18, Result.andThen, go_sem]
        case f12_1f =>
          intro f v g w' hJ hfi hb hd
          refine arm_u rfl ?_
          refine op_run rfl ?_
          have e17 : g 17 = .bool false := value_u (hd ⟨9, .data⟩ (by simp) rfl) rfl rfl
          have e19 : g 19 = .bool false := value_u (hd ⟨11, .data⟩ (by simp) rfl) rfl rfl
          generalize hA : mkAct _ _ g = A
          have h17 : A.tmps[17]?.getD undef = .bool false := by rw [← hA, mkAct_in2 _ _ _ _ rfl rfl]; exact e17
          have h19 : A.tmps[19]?.getD undef = .bool false := by rw [← hA, mkAct_in2 _ _ _ _ rfl rfl]; exact e19
          refine step_val (v := .bool false) (w' := w') ?_ ⟨rfl, Ext.refl _ _⟩
          simp [execOp, h17, h19, Result.andThen, go_sem]
        case f13_1f =>
          intro f v g w' hJ hfi hb hd
          refine arm_u rfl ?_
          refine op_run rfl ?_
          have e20 : g 20 = .bool false := value_u (hd ⟨12, .data⟩ (by simp) rfl) rfl rfl
          generalize hA : mkAct _ _ g = A
          have h20 : A.tmps[20]?.getD undef = .bool false := by rw [← hA, mkAct_in2 _ _ _ _ rfl rfl]; exact e20
          refine step_val (v := .bool false) (w' := w') ?_ ⟨rfl, Ext.refl _ _⟩
          simp [execOp, h20, Result.andThen, go_sem]
        case f14_1f =>
          intro f v g w' hJ hfi hb hd
          refine arm_u rfl ?_
          have eg : g 21 = .bool false := value_u (hd ⟨13, .guard⟩ (by simp) rfl) rfl rfl
          refine op_yes rfl rfl rfl rfl eg ?_
          generalize hA : mkAct _ _ g = A
          have h1 : A.tmps[1]?.getD undef = .int .i64 (kn : Int) := by rw [← hA]; exact mkAct_out2 _ _ _ _ _ rfl rfl
          refine step_val (v := .int .i64 (kn : Int)) (w' := w') ?_ ⟨rfl, Ext.refl _ _⟩
          simp [execOp, h1, Result.andThen, go_sem]
        case f15_1f =>
          intro f v g w' hJ hfi hb hd
          refine arm_u rfl ?_
          have eg : g 21 = .bool false := value_u (hd ⟨13, .guard⟩ (by simp) rfl) rfl rfl
          refine op_yes rfl rfl rfl rfl eg ?_
          generalize hA : mkAct _ _ g = A
          have h0 : A.tmps[0]?.getD undef = .pointer (some ⟨q, 0, none⟩) := by rw [← hA]; exact mkAct_out2 _ _ _ _ _ rfl rfl
          refine step_val (v := .pointer (some ⟨q, 0, none⟩)) (w' := w') ?_ ⟨rfl, Ext.refl _ _⟩
          simp [execOp, h0, Result.andThen, go_sem]
        case f16_1f =>
          intro f v g w' hJ hfi hb hd
          refine arm_u rfl ?_
          have eg : g 21 = .bool false := value_u (hd ⟨13, .guard⟩ (by simp) rfl) rfl rfl
          refine op_yes rfl rfl rfl rfl eg ?_
          have e23 : g 23 = .pointer (some ⟨q, 0, none⟩) := value_u (hd ⟨15, .data⟩ (by simp) rfl) rfl rfl
          generalize hA : mkAct _ _ g = A
          have h23 : A.tmps[23]?.getD undef = .pointer (some ⟨q, 0, none⟩) := by rw [← hA, mkAct_in2 _ _ _ _ rfl rfl]; exact e23
          refine step_val (v := .pointer (some ⟨q, 0, none⟩)) (w' := w') ?_ ⟨rfl, Ext.refl _ _⟩
          simp [execOp, h23, Result.andThen, go_sem]
        case f17_1f =>
          intro f v g w' hJ hfi hb hd
          refine arm_u rfl ?_
          have eg : g 21 = .bool false := value_u (hd ⟨13, .guard⟩ (by simp) rfl) rfl rfl
          refine op_yes rfl rfl rfl rfl eg ?_
          have e24 : g 24 = .pointer (some ⟨q, 0, none⟩) := value_u (hd ⟨16, .data⟩ (by simp) rfl) rfl rfl
          generalize hA : mkAct _ _ g = A
          have h24 : A.tmps[24]?.getD undef = .pointer (some ⟨q, 0, none⟩) := by rw [← hA, mkAct_in2 _ _ _ _ rfl rfl]; exact e24
          refine step_val (v := .pointer (some ⟨q, 3, none⟩)) (w' := w') ?_ ⟨rfl, Ext.refl _ _⟩
          simp [execOp, h24, Result.andThen, go_sem]
        case f18_1f =>
          intro f v g w' hJ hfi hb hd
          refine arm_u rfl ?_
          have eg : g 21 = .bool false := value_u (hd ⟨13, .guard⟩ (by simp) rfl) rfl rfl
          refine op_yes rfl rfl rfl rfl eg ?_
          have e25 : g 25 = .pointer (some ⟨q, 3, none⟩) := value_u (hd ⟨17, .data⟩ (by simp) rfl) rfl rfl
          generalize hA : mkAct _ _ g = A
          have h25 : A.tmps[25]?.getD undef = .pointer (some ⟨q, 3, none⟩) := by rw [← hA, mkAct_in2 _ _ _ _ rfl rfl]; exact e25
          refine step_val (v := .pointer (some ⟨q, 6, none⟩)) (w' := w') ?_ ⟨rfl, Ext.refl _ _⟩
          simp [execOp, h25, Result.andThen, go_sem]
        case f19_1f =>
          intro f v g w' hJ hfi hb hd
          refine arm_u rfl ?_
          have eg : g 21 = .bool false := value_u (hd ⟨13, .guard⟩ (by simp) rfl) rfl rfl
          refine op_yes rfl rfl rfl rfl eg ?_
          have e26 : g 26 = .pointer (some ⟨q, 6, none⟩) := value_u (hd ⟨18, .data⟩ (by simp) rfl) rfl rfl
          generalize hA : mkAct _ _ g = A
          have h26 : A.tmps[26]?.getD undef = .pointer (some ⟨q, 6, none⟩) := by rw [← hA, mkAct_in2 _ _ _ _ rfl rfl]; exact e26
          have c := (cq w' hJ.1).2.2.2.2.2.2
          refine step_val (v := .slice (some ⟨g0, off, none⟩) s.list.sums.length cap) (w' := w') ?_ ⟨rfl, Ext.refl _ _⟩
          simp [execOp, h26, c, Result.andThen, go_sem]
        case f20_1f =>
          intro f v g w' hJ hfi hb hd
          refine arm_u rfl ?_
          have eg : g 21 = .bool false := value_u (hd ⟨13, .guard⟩ (by simp) rfl) rfl rfl
          refine op_yes rfl rfl rfl rfl eg ?_
          have e27 : g 27 = .slice (some ⟨g0, off, none⟩) s.list.sums.length cap := value_u (hd ⟨19, .data⟩ (by simp) rfl) rfl rfl
          generalize hA : mkAct _ _ g = A
          have h27 : A.tmps[27]?.getD undef = .slice (some ⟨g0, off, none⟩) s.list.sums.length cap := by rw [← hA, mkAct_in2 _ _ _ _ rfl rfl]; exact e27
          refine step_val (v := .int .i64 (s.list.sums.length : Nat)) (w' := w') ?_ ⟨rfl, Ext.refl _ _⟩
          simp [execOp, h27, Result.andThen, go_sem]
        case f21_1f =>
          intro f v g w' hJ hfi hb hd
          refine arm_u rfl ?_
          have eg : g 21 = .bool false := value_u (hd ⟨13, .guard⟩ (by simp) rfl) rfl rfl
          refine op_yes rfl rfl rfl rfl eg ?_
          have e22 : g 22 = .int .i64 (kn : Int) := value_u (hd ⟨14, .data⟩ (by simp) rfl) rfl rfl
          have e28 : g 28 = .int .i64 (s.list.sums.length : Nat) := value_u (hd ⟨20, .data⟩ (by simp) rfl) rfl rfl
          generalize hA : mkAct _ _ g = A
          have h22 : A.tmps[22]?.getD undef = .int .i64 (kn : Int) := by rw [← hA, mkAct_in2 _ _ _ _ rfl rfl]; exact e22
          have h28 : A.tmps[28]?.getD undef = .int .i64 (s.list.sums.length : Nat) := by rw [← hA, mkAct_in2 _ _ _ _ rfl rfl]; exact e28
          refine step_val (v := .bool false) (w' := w') ?_ ⟨rfl, Ext.refl _ _⟩
          simp [execOp, e3, h22, h28, Result.andThen, go_sem]
          all_goals (first | exact hkl | omega)
        case f22_1f =>
          intro f v g w' hJ hfi hb hd
          refine arm_u rfl ?_
          refine op_run rfl ?_
          have e21 : g 21 = .bool false := value_u (hd ⟨13, .data⟩ (by simp) rfl) rfl rfl
          have e29 : g 29 = .bool false := value_u (hd ⟨21, .data⟩ (by simp) rfl) rfl rfl
          generalize hA : mkAct _ _ g = A
          have h21 : A.tmps[21]?.getD undef = .bool false := by rw [← hA, mkAct_in2 _ _ _ _ rfl rfl]; exact e21
          have h29 : A.tmps[29]?.getD undef = .bool false := by rw [← hA, mkAct_in2 _ _ _ _ rfl rfl]; exact e29
          refine step_val (v := .bool false) (w' := w') ?_ ⟨rfl, Ext.refl _ _⟩
          simp [execOp, h21, h29, Result.andThen, go_sem]
        case f23_1f =>
          intro f v g w' hJ hfi hb hd
          refine arm_u rfl ?_
          refine op_run rfl ?_
          have e30 : g 30 = .bool false := value_u (hd ⟨22, .data⟩ (by simp) rfl) rfl rfl
          generalize hA : mkAct _ _ g = A
          have h30 : A.tmps[30]?.getD undef = .bool false := by rw [← hA, mkAct_in2 _ _ _ _ rfl rfl]; exact e30
          refine step_val (v := .bool false) (w' := w') ?_ ⟨rfl, Ext.refl _ _⟩
          simp [execOp, h30, Result.andThen, go_sem]
        case f24_1f =>
          intro f v g w' hJ hfi hb hd
          refine arm_u rfl ?_
          have eg : g 31 = .bool false := value_u (hd ⟨23, .guard⟩ (by simp) rfl) rfl rfl
          refine op_yes rfl rfl rfl rfl eg ?_
          generalize hA : mkAct _ _ g = A
          have h2 : A.tmps[2]?.getD undef = .string ⟨d.toArray⟩ := by rw [← hA]; exact mkAct_out2 _ _ _ _ _ rfl rfl
          refine step_val (v := .string ⟨d.toArray⟩) (w' := w') ?_ ⟨rfl, Ext.refl _ _⟩
          simp [execOp, h2, Result.andThen, go_sem]
        case f25_1f =>
          intro f v g w' hJ hfi hb hd
          refine arms_u rfl ?_
          have eg : g 31 = .bool false := value_u (hd ⟨23, .guard⟩ (by simp) rfl) rfl rfl
          refine op_yes rfl rfl rfl rfl eg ?_
          have e32 : g 32 = .string ⟨d.toArray⟩ := value_u (hd ⟨24, .data⟩ (by simp) rfl) rfl rfl
          generalize hA : mkAct _ _ g = A
          have h32 : A.tmps[32]?.getD undef = .string ⟨d.toArray⟩ := by rw [← hA, mkAct_in2 _ _ _ _ rfl rfl]; exact e32
          have hxa : Ext [] w' (w'.alloc (.cells #[.string ⟨d.toArray⟩] 9)) := (Ext.refl _ _).alloc _
          refine step_val (v := .slice (some ⟨w'.heap.size, 0, none⟩) 1 1) (w' := w'.alloc (.cells #[.string ⟨d.toArray⟩] 9)) ?_ ⟨_, rfl, hJ.1.then0 hxa, fun _ => ⟨w'.heap.size, setU_same _ _ _, Blk.new w' 9 #[str d]⟩⟩
          simp [execOp, h32, Result.andThen, go_sem]
        case f26_1f =>
          intro f v g w' hJ hfi hb hd
          refine arm_u rfl ?_
          have eg : g 31 = .bool false := value_u (hd ⟨23, .guard⟩ (by simp) rfl) rfl rfl
          refine op_yes rfl rfl rfl rfl eg ?_
          obtain ⟨hf33, e33⟩ := special_u (hd ⟨25, .data⟩ (by simp) rfl) rfl rfl
          replace e33 : g 33 = v 25 := e33
          obtain ⟨z, ez, hz⟩ := hJ.2 hf33
          rw [ez] at e33
          generalize hA : mkAct _ _ g = A
          have h33 : A.tmps[33]?.getD undef = .slice (some ⟨z, 0, none⟩) 1 1 := by rw [← hA, mkAct_in2 _ _ _ _ rfl rfl]; exact e33
          refine float_u (fun K hK => ?_)
          go_simp
          refine (ofStr_any d w' z hz (by omega)).mono ?_
          rintro e w2 ⟨rfl, hx2⟩
          exact hK w2 hx2
        case f27_1f =>
          intro f v g w' hJ hfi hb hd
          refine arm_u rfl ?_
          have eg : g 31 = .bool false := value_u (hd ⟨23, .guard⟩ (by simp) rfl) rfl rfl
          refine op_yes rfl rfl rfl rfl eg ?_
          generalize hA : mkAct _ _ g = A
          have h0 : A.tmps[0]?.getD undef = .pointer (some ⟨q, 0, none⟩) := by rw [← hA]; exact mkAct_out2 _ _ _ _ _ rfl rfl
          refine step_val (v := .pointer (some ⟨q, 0, none⟩)) (w' := w') ?_ ⟨rfl, Ext.refl _ _⟩
          simp [execOp, h0, Result.andThen, go_sem]
        case f28_1f =>
          intro f v g w' hJ hfi hb hd
          refine arm_u rfl ?_
          have eg : g 31 = .bool false := value_u (hd ⟨23, .guard⟩ (by simp) rfl) rfl rfl
          refine op_yes rfl rfl rfl rfl eg ?_
          have e35 : g 35 = .pointer (some ⟨q, 0, none⟩) := value_u (hd ⟨27, .data⟩ (by simp) rfl) rfl rfl
          generalize hA : mkAct _ _ g = A
          have h35 : A.tmps[35]?.getD undef = .pointer (some ⟨q, 0, none⟩) := by rw [← hA, mkAct_in2 _ _ _ _ rfl rfl]; exact e35
          refine step_val (v := .pointer (some ⟨q, 0, none⟩)) (w' := w') ?_ ⟨rfl, Ext.refl _ _⟩
          simp [execOp, h35, Result.andThen, go_sem]
        case f29_1f =>
          intro f v g w' hJ hfi hb hd
          refine arm_u rfl ?_
          have eg : g 31 = .bool false := value_u (hd ⟨23, .guard⟩ (by simp) rfl) rfl rfl
          refine op_yes rfl rfl rfl rfl eg ?_
          have e36 : g 36 = .pointer (some ⟨q, 0, none⟩) := value_u (hd ⟨28, .data⟩ (by simp) rfl) rfl rfl
          generalize hA : mkAct _ _ g = A
          have h36 : A.tmps[36]?.getD undef = .pointer (some ⟨q, 0, none⟩) := by rw [← hA, mkAct_in2 _ _ _ _ rfl rfl]; exact e36
          refine step_val (v := .pointer (some ⟨q, 3, none⟩)) (w' := w') ?_ ⟨rfl, Ext.refl _ _⟩
          simp [execOp, h36, Result.andThen, go_sem]
        case f30_1f =>
          intro f v g w' hJ hfi hb hd
          refine arm_u rfl ?_
          have eg : g 31 = .bool false := value_u (hd ⟨23, .guard⟩ (by simp) rfl) rfl rfl
          refine op_yes rfl rfl rfl rfl eg ?_
          have e37 : g 37 = .pointer (some ⟨q, 3, none⟩) := value_u (hd ⟨29, .data⟩ (by simp) rfl) rfl rfl
          generalize hA : mkAct _ _ g = A
          have h37 : A.tmps[37]?.getD undef = .pointer (some ⟨q, 3, none⟩) := by rw [← hA, mkAct_in2 _ _ _ _ rfl rfl]; exact e37
          refine step_val (v := .pointer (some ⟨q, 6, none⟩)) (w' := w') ?_ ⟨rfl, Ext.refl _ _⟩
          simp [execOp, h37, Result.andThen, go_sem]
        case f31_1f =>
          intro f v g w' hJ hfi hb hd
          refine arm_u rfl ?_
          have eg : g 31 = .bool false := value_u (hd ⟨23, .guard⟩ (by simp) rfl) rfl rfl
          refine op_yes rfl rfl rfl rfl eg ?_
          have e38 : g 38 = .pointer (some ⟨q, 6, none⟩) := value_u (hd ⟨30, .data⟩ (by simp) rfl) rfl rfl
          generalize hA : mkAct _ _ g = A
          have h38 : A.tmps[38]?.getD undef = .pointer (some ⟨q, 6, none⟩) := by rw [← hA, mkAct_in2 _ _ _ _ rfl rfl]; exact e38
          have c := (cq w' hJ.1).2.2.2.2.2.2
          refine step_val (v := .slice (some ⟨g0, off, none⟩) s.list.sums.length cap) (w' := w') ?_ ⟨rfl, Ext.refl _ _⟩
          simp [execOp, h38, c, Result.andThen, go_sem]
        case f32_1f =>
          intro f v g w' hJ hfi hb hd
          refine arm_u rfl ?_
          have eg : g 31 = .bool false := value_u (hd ⟨23, .guard⟩ (by simp) rfl) rfl rfl
          refine op_yes rfl rfl rfl rfl eg ?_
          generalize hA : mkAct _ _ g = A
          have h1 : A.tmps[1]?.getD undef = .int .i64 (kn : Int) := by rw [← hA]; exact mkAct_out2 _ _ _ _ _ rfl rfl
          refine step_val (v := .int .i64 (kn : Int)) (w' := w') ?_ ⟨rfl, Ext.refl _ _⟩
          simp [execOp, h1, Result.andThen, go_sem]
        case f33_1f =>
          intro f v g w' hJ hfi hb hd
          refine arm_u rfl ?_
          have eg : g 31 = .bool false := value_u (hd ⟨23, .guard⟩ (by simp) rfl) rfl rfl
          refine op_yes rfl rfl rfl rfl eg ?_
          have e39 : g 39 = .slice (some ⟨g0, off, none⟩) s.list.sums.length cap := value_u (hd ⟨31, .data⟩ (by simp) rfl) rfl rfl
          have e40 : g 40 = .int .i64 (kn : Int) := value_u (hd ⟨32, .data⟩ (by simp) rfl) rfl rfl
          generalize hA : mkAct _ _ g = A
          have h39 : A.tmps[39]?.getD undef = .slice (some ⟨g0, off, none⟩) s.list.sums.length cap := by rw [← hA, mkAct_in2 _ _ _ _ rfl rfl]; exact e39
          have h40 : A.tmps[40]?.getD undef = .int .i64 (kn : Int) := by rw [← hA, mkAct_in2 _ _ _ _ rfl rfl]; exact e40
          refine step_val (v := .pointer (some ⟨g0, off + kn, none⟩)) (w' := w') ?_ ⟨rfl, Ext.refl _ _⟩
          simp [execOp, hkl, h39, h40, Result.andThen, go_sem]
          all_goals (first | exact hkl | omega)
        case f34_1f =>
          intro f v g w' hJ hfi hb hd
          refine arm_u rfl ?_
          have eg : g 31 = .bool false := value_u (hd ⟨23, .guard⟩ (by simp) rfl) rfl rfl
          refine op_yes rfl rfl rfl rfl eg ?_
          have e41 : g 41 = .pointer (some ⟨g0, off + kn, none⟩) := value_u (hd ⟨33, .data⟩ (by simp) rfl) rfl rfl
          generalize hA : mkAct _ _ g = A
          have h41 : A.tmps[41]?.getD undef = .pointer (some ⟨g0, off + kn, none⟩) := by rw [← hA, mkAct_in2 _ _ _ _ rfl rfl]; exact e41
          have c := cs w' hJ.1
          refine step_val (v := .int .u32 (u32v (sumOf d))) (w' := w') ?_ ⟨rfl, Ext.refl _ _⟩
          simp [execOp, h41, c, Result.andThen, go_sem]
        case f35_1f =>
          intro f v g w' hJ hfi hb hd
          refine arm_u rfl ?_
          have eg : g 31 = .bool false := value_u (hd ⟨23, .guard⟩ (by simp) rfl) rfl rfl
          refine op_yes rfl rfl rfl rfl eg ?_
          have e34 : g 34 = .int .u32 (u32v (sumOf d)) := value_u (hd ⟨26, .data⟩ (by simp) rfl) rfl rfl
          have e42 : g 42 = .int .u32 (u32v (sumOf d)) := value_u (hd ⟨34, .data⟩ (by simp) rfl) rfl rfl
          generalize hA : mkAct _ _ g = A
          have h34 : A.tmps[34]?.getD undef = .int .u32 (u32v (sumOf d)) := by rw [← hA, mkAct_in2 _ _ _ _ rfl rfl]; exact e34
          have h42 : A.tmps[42]?.getD undef = .int .u32 (u32v (sumOf d)) := by rw [← hA, mkAct_in2 _ _ _ _ rfl rfl]; exact e42
          refine step_val (v := .bool false) (w' := w') ?_ ⟨rfl, Ext.refl _ _⟩
          simp [execOp, h34, h42, Result.andThen, go_sem]
        case f36_1f =>
          intro f v g w' hJ hfi hb hd
          refine arm_u rfl ?_
          refine op_run rfl ?_
          have e31 : g 31 = .bool false := value_u (hd ⟨23, .data⟩ (by simp) rfl) rfl rfl
          have e43 : g 43 = .bool false := value_u (hd ⟨35, .data⟩ (by simp) rfl) rfl rfl
          generalize hA : mkAct _ _ g = A
          have h31 : A.tmps[31]?.getD undef = .bool false := by rw [← hA, mkAct_in2 _ _ _ _ rfl rfl]; exact e31
          have h43 : A.tmps[43]?.getD undef = .bool false := by rw [← hA, mkAct_in2 _ _ _ _ rfl rfl]; exact e43
          refine step_val (v := .bool false) (w' := w') ?_ ⟨rfl, Ext.refl _ _⟩
          simp [execOp, h31, h43, Result.andThen, go_sem]
        case f37_1f =>
          intro f v g w' hJ hfi hb hd
          refine arm_u rfl ?_
          refine op_run rfl ?_
          have e44 : g 44 = .bool false := value_u (hd ⟨36, .data⟩ (by simp) rfl) rfl rfl
          generalize hA : mkAct _ _ g = A
          have h44 : A.tmps[44]?.getD undef = .bool false := by rw [← hA, mkAct_in2 _ _ _ _ rfl rfl]; exact e44
          refine step_val (v := .bool false) (w' := w') ?_ ⟨rfl, Ext.refl _ _⟩
          simp [execOp, h44, Result.andThen, go_sem]
        case f38_1f =>
          intro f v g w' hJ hfi hb hd
          refine arm_u rfl ?_
          have eg : g 45 = .bool false := value_u (hd ⟨37, .guard⟩ (by simp) rfl) rfl rfl
          refine op_yes rfl rfl rfl rfl eg ?_
          generalize hA : mkAct _ _ g = A
          have h2 : A.tmps[2]?.getD undef = .string ⟨d.toArray⟩ := by rw [← hA]; exact mkAct_out2 _ _ _ _ _ rfl rfl
          refine step_val (v := .string ⟨d.toArray⟩) (w' := w') ?_ ⟨rfl, Ext.refl _ _⟩
          simp [execOp, h2, Result.andThen, go_sem]
        case f39_1f =>
          intro f v g w' hJ hfi hb hd
          refine arm_u rfl ?_
          have eg : g 45 = .bool false := value_u (hd ⟨37, .guard⟩ (by simp) rfl) rfl rfl
          refine op_yes rfl rfl rfl rfl eg ?_
          have e46 : g 46 = .string ⟨d.toArray⟩ := value_u (hd ⟨38, .data⟩ (by simp) rfl) rfl rfl
          generalize hA : mkAct _ _ g = A
          have h46 : A.tmps[46]?.getD undef = .string ⟨d.toArray⟩ := by rw [← hA, mkAct_in2 _ _ _ _ rfl rfl]; exact e46
          refine step_val (v := .int .i64 (d.length : Int)) (w' := w') ?_ ⟨rfl, Ext.refl _ _⟩
          simp [execOp, h46, Result.andThen, go_sem]
        case f40_1f =>
          intro f v g w' hJ hfi hb hd
          refine arm_u rfl ?_
          have eg : g 45 = .bool false := value_u (hd ⟨37, .guard⟩ (by simp) rfl) rfl rfl
          refine op_yes rfl rfl rfl rfl eg ?_
          generalize hA : mkAct _ _ g = A
          have h0 : A.tmps[0]?.getD undef = .pointer (some ⟨q, 0, none⟩) := by rw [← hA]; exact mkAct_out2 _ _ _ _ _ rfl rfl
          refine step_val (v := .pointer (some ⟨q, 0, none⟩)) (w' := w') ?_ ⟨rfl, Ext.refl _ _⟩
          simp [execOp, h0, Result.andThen, go_sem]
        case f41_1f =>
          intro f v g w' hJ hfi hb hd
          refine arm_u rfl ?_
          have eg : g 45 = .bool false := value_u (hd ⟨37, .guard⟩ (by simp) rfl) rfl rfl
          refine op_yes rfl rfl rfl rfl eg ?_
          have e48 : g 48 = .pointer (some ⟨q, 0, none⟩) := value_u (hd ⟨40, .data⟩ (by simp) rfl) rfl rfl
          generalize hA : mkAct _ _ g = A
          have h48 : A.tmps[48]?.getD undef = .pointer (some ⟨q, 0, none⟩) := by rw [← hA, mkAct_in2 _ _ _ _ rfl rfl]; exact e48
          refine step_val (v := .pointer (some ⟨q, 0, none⟩)) (w' := w') ?_ ⟨rfl, Ext.refl _ _⟩
          simp [execOp, h48, Result.andThen, go_sem]
        case f42_1f =>
          intro f v g w' hJ hfi hb hd
          refine arm_u rfl ?_
          have eg : g 45 = .bool false := value_u (hd ⟨37, .guard⟩ (by simp) rfl) rfl rfl
          refine op_yes rfl rfl rfl rfl eg ?_
          have e49 : g 49 = .pointer (some ⟨q, 0, none⟩) := value_u (hd ⟨41, .data⟩ (by simp) rfl) rfl rfl
          generalize hA : mkAct _ _ g = A
          have h49 : A.tmps[49]?.getD undef = .pointer (some ⟨q, 0, none⟩) := by rw [← hA, mkAct_in2 _ _ _ _ rfl rfl]; exact e49
          refine step_val (v := .pointer (some ⟨q, 3, none⟩)) (w' := w') ?_ ⟨rfl, Ext.refl _ _⟩
          simp [execOp, h49, Result.andThen, go_sem]
        case f43_1f =>
          intro f v g w' hJ hfi hb hd
          refine arm_u rfl ?_
          have eg : g 45 = .bool false := value_u (hd ⟨37, .guard⟩ (by simp) rfl) rfl rfl
          refine op_yes rfl rfl rfl rfl eg ?_
          have e50 : g 50 = .pointer (some ⟨q, 3, none⟩) := value_u (hd ⟨42, .data⟩ (by simp) rfl) rfl rfl
          generalize hA : mkAct _ _ g = A
          have h50 : A.tmps[50]?.getD undef = .pointer (some ⟨q, 3, none⟩) := by rw [← hA, mkAct_in2 _ _ _ _ rfl rfl]; exact e50
          refine step_val (v := .pointer (some ⟨q, 5, none⟩)) (w' := w') ?_ ⟨rfl, Ext.refl _ _⟩
          simp [execOp, h50, Result.andThen, go_sem]
        case f44_1f =>
          intro f v g w' hJ hfi hb hd
          refine arm_u rfl ?_
          have eg : g 45 = .bool false := value_u (hd ⟨37, .guard⟩ (by simp) rfl) rfl rfl
          refine op_yes rfl rfl rfl rfl eg ?_
          have e51 : g 51 = .pointer (some ⟨q, 5, none⟩) := value_u (hd ⟨43, .data⟩ (by simp) rfl) rfl rfl
          generalize hA : mkAct _ _ g = A
          have h51 : A.tmps[51]?.getD undef = .pointer (some ⟨q, 5, none⟩) := by rw [← hA, mkAct_in2 _ _ _ _ rfl rfl]; exact e51
          have c := (cq w' hJ.1).2.2.2.2.2.1
          refine step_val (v := .int .i64 s.list.bytes) (w' := w') ?_ ⟨rfl, Ext.refl _ _⟩
          simp [execOp, h51, c, Result.andThen, go_sem]
        case f45_1f =>
          intro f v g w' hJ hfi hb hd
          refine arm_u rfl ?_
          have eg : g 45 = .bool false := value_u (hd ⟨37, .guard⟩ (by simp) rfl) rfl rfl
          refine op_yes rfl rfl rfl rfl eg ?_
          generalize hA : mkAct _ _ g = A
          have h1 : A.tmps[1]?.getD undef = .int .i64 (kn : Int) := by rw [← hA]; exact mkAct_out2 _ _ _ _ _ rfl rfl
          refine step_val (v := .int .i64 (kn : Int)) (w' := w') ?_ ⟨rfl, Ext.refl _ _⟩
          simp [execOp, h1, Result.andThen, go_sem]
        case f46_1f =>
          intro f v g w' hJ hfi hb hd
          refine arm_u rfl ?_
          have eg : g 45 = .bool false := value_u (hd ⟨37, .guard⟩ (by simp) rfl) rfl rfl
          refine op_yes rfl rfl rfl rfl eg ?_
          have e53 : g 53 = .int .i64 (kn : Int) := value_u (hd ⟨45, .data⟩ (by simp) rfl) rfl rfl
          generalize hA : mkAct _ _ g = A
          have h53 : A.tmps[53]?.getD undef = .int .i64 (kn : Int) := by rw [← hA, mkAct_in2 _ _ _ _ rfl rfl]; exact e53
          refine step_val (v := .int .i64 ((kn : Int) * 400)) (w' := w') ?_ ⟨rfl, Ext.refl _ _⟩
          simp [execOp, h53, Result.andThen, go_sem]
          exact IntWalk.i64_in _ ⟨by omega, by omega⟩
        case f47_1f =>
          intro f v g w' hJ hfi hb hd
          refine arm_u rfl ?_
          have eg : g 45 = .bool false := value_u (hd ⟨37, .guard⟩ (by simp) rfl) rfl rfl
          refine op_yes rfl rfl rfl rfl eg ?_
          have e52 : g 52 = .int .i64 s.list.bytes := value_u (hd ⟨44, .data⟩ (by simp) rfl) rfl rfl
          have e54 : g 54 = .int .i64 ((kn : Int) * 400) := value_u (hd ⟨46, .data⟩ (by simp) rfl) rfl rfl
          generalize hA : mkAct _ _ g = A
          have h52 : A.tmps[52]?.getD undef = .int .i64 s.list.bytes := by rw [← hA, mkAct_in2 _ _ _ _ rfl rfl]; exact e52
          have h54 : A.tmps[54]?.getD undef = .int .i64 ((kn : Int) * 400) := by rw [← hA, mkAct_in2 _ _ _ _ rfl rfl]; exact e54
          refine step_val (v := .int .i64 (s.list.bytes - (kn : Int) * 400)) (w' := w') ?_ ⟨rfl, Ext.refl _ _⟩
          simp [execOp, h52, h54, Result.andThen, go_sem]
          exact IntWalk.i64_in _ ⟨by omega, by omega⟩
        case f48_1f =>
          intro f v g w' hJ hfi hb hd
          refine arm_u rfl ?_
          have eg : g 45 = .bool false := value_u (hd ⟨37, .guard⟩ (by simp) rfl) rfl rfl
          refine op_yes rfl rfl rfl rfl eg ?_
          have e55 : g 55 = .int .i64 (s.list.bytes - (kn : Int) * 400) := value_u (hd ⟨47, .data⟩ (by simp) rfl) rfl rfl
          generalize hA : mkAct _ _ g = A
          have h55 : A.tmps[55]?.getD undef = .int .i64 (s.list.bytes - (kn : Int) * 400) := by rw [← hA, mkAct_in2 _ _ _ _ rfl rfl]; exact e55
          refine step_val (v := .int .i64 (min 400 (s.list.bytes - (kn : Int) * 400))) (w' := w') ?_ ⟨rfl, Ext.refl _ _⟩
          simp [execOp, h55, Result.andThen, go_sem]
          all_goals (first | omega | (split <;> omega))
        case f49_1f =>
          intro f v g w' hJ hfi hb hd
          refine arm_u rfl ?_
          have eg : g 45 = .bool false := value_u (hd ⟨37, .guard⟩ (by simp) rfl) rfl rfl
          refine op_yes rfl rfl rfl rfl eg ?_
          have e47 : g 47 = .int .i64 (d.length : Int) := value_u (hd ⟨39, .data⟩ (by simp) rfl) rfl rfl
          have e56 : g 56 = .int .i64 (min 400 (s.list.bytes - (kn : Int) * 400)) := value_u (hd ⟨48, .data⟩ (by simp) rfl) rfl rfl
          generalize hA : mkAct _ _ g = A
          have h47 : A.tmps[47]?.getD undef = .int .i64 (d.length : Int) := by rw [← hA, mkAct_in2 _ _ _ _ rfl rfl]; exact e47
          have h56 : A.tmps[56]?.getD undef = .int .i64 (min 400 (s.list.bytes - (kn : Int) * 400)) := by rw [← hA, mkAct_in2 _ _ _ _ rfl rfl]; exact e56
          refine step_val (v := .bool false) (w' := w') ?_ ⟨rfl, Ext.refl _ _⟩
          simp [execOp, e6, h47, h56, Result.andThen, go_sem]
        case f50_1f =>
          intro f v g w' hJ hfi hb hd
          refine arm_u rfl ?_
          refine op_run rfl ?_
          have e45 : g 45 = .bool false := value_u (hd ⟨37, .data⟩ (by simp) rfl) rfl rfl
          have e57 : g 57 = .bool false := value_u (hd ⟨49, .data⟩ (by simp) rfl) rfl rfl
          generalize hA : mkAct _ _ g = A
          have h45 : A.tmps[45]?.getD undef = .bool false := by rw [← hA, mkAct_in2 _ _ _ _ rfl rfl]; exact e45
          have h57 : A.tmps[57]?.getD undef = .bool false := by rw [← hA, mkAct_in2 _ _ _ _ rfl rfl]; exact e57
          refine step_val (v := .bool false) (w' := w') ?_ ⟨rfl, Ext.refl _ _⟩
          simp [execOp, h45, h57, Result.andThen, go_sem]
      intro f v g wn hJ hk
      have e58 : g 58 = .bool false := value_u (hk 50 (by decide)) rfl rfl
      have hxe := hJ.1
      have HXE := Hid.of hxe
      clear hk hJ cq cs
      unfold mkAct; simp only [List.zipIdx_cons, List.zipIdx_nil, List.map_cons, List.map_nil, Nat.zero_add, Nat.reduceAdd, List.contains_cons, List.contains_nil, Nat.reduceBEq, Bool.or_false, Bool.or_true, ↓reduceIte, Bool.false_eq_true]
      rw [e58]
      obtain ⟨wm, hwm⟩ : ∃ w9, w9 = wn := ⟨_, rfl⟩
      rw [← hwm] at HXE ⊢
      clear hwm hxe e58
      have HSm := Hid.of (H.out.keep HXE.out)
      have hpx : putE (⟨5, s.list.idx, (kn : Int), d⟩ : Rc) = 0 := chunk_put (i := s.list.idx) (k := kn) (c := d) ⟨HRt.out.1, HRt.out.2.1⟩ (by omega) (by omega)
      have HWf := wf_of_put hpx
      have cq3 : ∀ w', Kept (q :: (vblocks (.slice (some ⟨g0, off, none⟩) s.list.sums.length cap) ++ O)) wm w' → w'.cell? ⟨q, 0, none⟩ = some (.pointer (some ⟨b, 0, none⟩)) ∧ w'.cell? ⟨q, 2, none⟩ = some (.int .i64 s.area) ∧ w'.cell? ⟨q, 3, none⟩ = some (.int .i64 s.list.idx) := fun w' hkp => by
        have hb := StB.cells (hkp.blk HSm.out.blk (by simp) : StB w' q b _ s)
        exact ⟨hb.1, hb.2.2.1, hb.2.2.2.1⟩
      have cb := fun w' (hx : Ext [] wm w') => block_o (Blk.keep HSm.out.blk hx (by simp) : StB w' q b _ s) HB0.out s.area (2 + (kn : Int)) (by omega) (by omega)
      have cw := fun w' (hx : Ext [] wm w') => swrite_o b D (s.b s.area (2 + (kn : Int))) ⟨5, s.list.idx, (kn : Int), d⟩ w0 w' _ (HSm.out.dev.keep hx) (by have := HLen.out; omega) HWf
      have HO1 := Hid.of (wrf_one (s.b s.area (2 + (kn : Int))) ⟨5, s.list.idx, (kn : Int), d⟩ D)
      have HM3 : Hid (MX = wrf [(s.b s.area (2 + (kn : Int)), ⟨5, s.list.idx, (kn : Int), d⟩)] D) := Hid.of HM2.out
      generalize wrf [(s.b s.area (2 + (kn : Int)), ⟨5, s.list.idx, (kn : Int), d⟩)] D = PP at HO1 HM3
      generalize hE1 : swE (s.b s.area (2 + (kn : Int))) ⟨5, s.list.idx, (kn : Int), d⟩ D = E1 at cw HO1
      generalize hD2 : swD (s.b s.area (2 + (kn : Int))) ⟨5, s.list.idx, (kn : Int), d⟩ D = D2 at cw HO1
      generalize s.b s.area (2 + (kn : Int)) = Bl at cb cw
      simp only [Rc.val] at cw
      clear hE1 hD2 HM2 hpx
      go_upto_region 3 with fail
      refine wp_region_u [59, 60, 61, 62, 63, 64, 65, 66, 67, 68, 69, 70, 71, 72, 73, 74, 75, 76, 77, 78, 79, 7] [20] (fun n => match n with | 0 => .pointer (some ⟨q, 0, none⟩) | 1 => .pointer (some ⟨q, 0, none⟩) | 2 => .pointer (some ⟨q, 0, none⟩) | 3 => .pointer (some ⟨b, 0, none⟩) | 4 => .pointer (some ⟨q, 0, none⟩) | 5 => .pointer (some ⟨q, 0, none⟩) | 6 => .pointer (some ⟨q, 0, none⟩) | 7 => .pointer (some ⟨q, 2, none⟩) | 8 => .int .i64 s.area | 9 => .int .i64 (kn : Int) | 10 => .int .i64 (2 + (kn : Int)) | 11 => .int .i64 Bl | 12 => .pointer (some ⟨q, 0, none⟩) | 13 => .pointer (some ⟨q, 0, none⟩) | 14 => .pointer (some ⟨q, 3, none⟩) | 15 => .pointer (some ⟨q, 3, none⟩) | 16 => .int .i64 s.list.idx | 17 => .int .i64 (kn : Int) | 18 => .string ⟨d.toArray⟩ | 19 => .agg #[.int .i64 5, .int .i64 s.list.idx, .int .i64 (kn : Int), .string ⟨d.toArray⟩] | 21 => .int .i64 E1 | _ => undef) (fun f v wx => (f 20 = false → Ext [] wm wx) ∧ (f 20 = true → v 20 = .int .i64 E1 ∧ DevO w0 wx b D2 (q :: (vblocks (.slice (some ⟨g0, off, none⟩) s.list.sums.length cap) ++ O))) ∧ Kept (q :: (vblocks (.slice (some ⟨g0, off, none⟩) s.list.sums.length cap) ++ O)) wm wx) (by kernel_rfl) (by kernel_rfl) ?hst0_3 ?h00_3 ?hst_3 ?hend_3
      case hst0_3 =>
        rintro f v w w' ⟨j1, j2, j3⟩ hx2
        exact ⟨fun h => (j1 h).then0 hx2, fun h => ⟨(j2 h).1, (j2 h).2.keep hx2⟩, j3.trans (Kept.of hx2)⟩
      case h00_3 =>
        exact ⟨fun _ => Ext.refl _ _, fun h => (by cases h), Kept.refl _ _⟩
      case hst_3 =>
        refine ⟨?f0_3, ?f1_3, ?f2_3, ?f3_3, ?f4_3, ?f5_3, ?f6_3, ?f7_3, ?f8_3, ?f9_3, ?f10_3, ?f11_3, ?f12_3, ?f13_3, ?f14_3, ?f15_3, ?f16_3, ?f17_3, ?f18_3, ?f19_3, ?f20_3, ?f21_3, trivial⟩
        case f0_3 =>
          intro f v g w' hJ hfi hb hd
          refine arm_u rfl ?_
          refine op_run rfl ?_
          generalize hA : mkAct _ _ g = A
          have h0 : A.tmps[0]?.getD undef = .pointer (some ⟨q, 0, none⟩) := by rw [← hA]; exact mkAct_out2 _ _ _ _ _ rfl rfl
          refine step_val (v := .pointer (some ⟨q, 0, none⟩)) (w' := w') ?_ ⟨rfl, Ext.refl _ _⟩
          simp [execOp, h0, Result.andThen, go_sem]
        case f1_3 =>
          intro f v g w' hJ hfi hb hd
          refine arm_u rfl ?_
          refine op_run rfl ?_
          have e59 : g 59 = .pointer (some ⟨q, 0, none⟩) := value_u (hd ⟨0, .data⟩ (by simp) rfl) rfl rfl
          generalize hA : mkAct _ _ g = A
          have h59 : A.tmps[59]?.getD undef = .pointer (some ⟨q, 0, none⟩) := by rw [← hA, mkAct_in2 _ _ _ _ rfl rfl]; exact e59
          refine step_val (v := .pointer (some ⟨q, 0, none⟩)) (w' := w') ?_ ⟨rfl, Ext.refl _ _⟩
          simp [execOp, h59, Result.andThen, go_sem]
        case f2_3 =>
          intro f v g w' hJ hfi hb hd
          refine arm_u rfl ?_
          refine op_run rfl ?_
          have e60 : g 60 = .pointer (some ⟨q, 0, none⟩) := value_u (hd ⟨1, .data⟩ (by simp) rfl) rfl rfl
          generalize hA : mkAct _ _ g = A
          have h60 : A.tmps[60]?.getD undef = .pointer (some ⟨q, 0, none⟩) := by rw [← hA, mkAct_in2 _ _ _ _ rfl rfl]; exact e60
          refine step_val (v := .pointer (some ⟨q, 0, none⟩)) (w' := w') ?_ ⟨rfl, Ext.refl _ _⟩
          simp [execOp, h60, Result.andThen, go_sem]
        case f3_3 =>
          intro f v g w' hJ hfi hb hd
          refine arm_u rfl ?_
          refine op_run rfl ?_
          have e61 : g 61 = .pointer (some ⟨q, 0, none⟩) := value_u (hd ⟨2, .data⟩ (by simp) rfl) rfl rfl
          generalize hA : mkAct _ _ g = A
          have h61 : A.tmps[61]?.getD undef = .pointer (some ⟨q, 0, none⟩) := by rw [← hA, mkAct_in2 _ _ _ _ rfl rfl]; exact e61
          have c := (cq3 w' hJ.2.2).1
          refine step_val (v := .pointer (some ⟨b, 0, none⟩)) (w' := w') ?_ ⟨rfl, Ext.refl _ _⟩
          simp [execOp, h61, c, Result.andThen, go_sem]
        case f4_3 =>
          intro f v g w' hJ hfi hb hd
          refine arm_u rfl ?_
          refine op_run rfl ?_
          generalize hA : mkAct _ _ g = A
          have h0 : A.tmps[0]?.getD undef = .pointer (some ⟨q, 0, none⟩) := by rw [← hA]; exact mkAct_out2 _ _ _ _ _ rfl rfl
          refine step_val (v := .pointer (some ⟨q, 0, none⟩)) (w' := w') ?_ ⟨rfl, Ext.refl _ _⟩
          simp [execOp, h0, Result.andThen, go_sem]
        case f5_3 =>
          intro f v g w' hJ hfi hb hd
          refine arm_u rfl ?_
          refine op_run rfl ?_
          generalize hA : mkAct _ _ g = A
          have h0 : A.tmps[0]?.getD undef = .pointer (some ⟨q, 0, none⟩) := by rw [← hA]; exact mkAct_out2 _ _ _ _ _ rfl rfl
          refine step_val (v := .pointer (some ⟨q, 0, none⟩)) (w' := w') ?_ ⟨rfl, Ext.refl _ _⟩
          simp [execOp, h0, Result.andThen, go_sem]
        case f6_3 =>
          intro f v g w' hJ hfi hb hd
          refine arm_u rfl ?_
          refine op_run rfl ?_
          have e64 : g 64 = .pointer (some ⟨q, 0, none⟩) := value_u (hd ⟨5, .data⟩ (by simp) rfl) rfl rfl
          generalize hA : mkAct _ _ g = A
          have h64 : A.tmps[64]?.getD undef = .pointer (some ⟨q, 0, none⟩) := by rw [← hA, mkAct_in2 _ _ _ _ rfl rfl]; exact e64
          refine step_val (v := .pointer (some ⟨q, 0, none⟩)) (w' := w') ?_ ⟨rfl, Ext.refl _ _⟩
          simp [execOp, h64, Result.andThen, go_sem]
        case f7_3 =>
          intro f v g w' hJ hfi hb hd
          refine arm_u rfl ?_
          refine op_run rfl ?_
          have e65 : g 65 = .pointer (some ⟨q, 0, none⟩) := value_u (hd ⟨6, .data⟩ (by simp) rfl) rfl rfl
          generalize hA : mkAct _ _ g = A
          have h65 : A.tmps[65]?.getD undef = .pointer (some ⟨q, 0, none⟩) := by rw [← hA, mkAct_in2 _ _ _ _ rfl rfl]; exact e65
          refine step_val (v := .pointer (some ⟨q, 2, none⟩)) (w' := w') ?_ ⟨rfl, Ext.refl _ _⟩
          simp [execOp, h65, Result.andThen, go_sem]
        case f8_3 =>
          intro f v g w' hJ hfi hb hd
          refine arm_u rfl ?_
          refine op_run rfl ?_
          have e66 : g 66 = .pointer (some ⟨q, 2, none⟩) := value_u (hd ⟨7, .data⟩ (by simp) rfl) rfl rfl
          generalize hA : mkAct _ _ g = A
          have h66 : A.tmps[66]?.getD undef = .pointer (some ⟨q, 2, none⟩) := by rw [← hA, mkAct_in2 _ _ _ _ rfl rfl]; exact e66
          have c := (cq3 w' hJ.2.2).2.1
          refine step_val (v := .int .i64 s.area) (w' := w') ?_ ⟨rfl, Ext.refl _ _⟩
          simp [execOp, h66, c, Result.andThen, go_sem]
        case f9_3 =>
          intro f v g w' hJ hfi hb hd
          refine arm_u rfl ?_
          refine op_run rfl ?_
          generalize hA : mkAct _ _ g = A
          have h1 : A.tmps[1]?.getD undef = .int .i64 (kn : Int) := by rw [← hA]; exact mkAct_out2 _ _ _ _ _ rfl rfl
          refine step_val (v := .int .i64 (kn : Int)) (w' := w') ?_ ⟨rfl, Ext.refl _ _⟩
          simp [execOp, h1, Result.andThen, go_sem]
        case f10_3 =>
          intro f v g w' hJ hfi hb hd
          refine arm_u rfl ?_
          refine op_run rfl ?_
          have e68 : g 68 = .int .i64 (kn : Int) := value_u (hd ⟨9, .data⟩ (by simp) rfl) rfl rfl
          generalize hA : mkAct _ _ g = A
          have h68 : A.tmps[68]?.getD undef = .int .i64 (kn : Int) := by rw [← hA, mkAct_in2 _ _ _ _ rfl rfl]; exact e68
          refine step_val (v := .int .i64 (2 + (kn : Int))) (w' := w') ?_ ⟨rfl, Ext.refl _ _⟩
          simp [execOp, h68, Result.andThen, go_sem]
          exact IntWalk.i64_in _ ⟨by omega, by omega⟩
        case f11_3 =>
          intro f v g w' hJ hfi hb hd
          refine arm_u rfl ?_
          refine op_run rfl ?_
          have e63 : g 63 = .pointer (some ⟨q, 0, none⟩) := value_u (hd ⟨4, .data⟩ (by simp) rfl) rfl rfl
          have e67 : g 67 = .int .i64 s.area := value_u (hd ⟨8, .data⟩ (by simp) rfl) rfl rfl
          have e69 : g 69 = .int .i64 (2 + (kn : Int)) := value_u (hd ⟨10, .data⟩ (by simp) rfl) rfl rfl
          generalize hA : mkAct _ _ g = A
          have h63 : A.tmps[63]?.getD undef = .pointer (some ⟨q, 0, none⟩) := by rw [← hA, mkAct_in2 _ _ _ _ rfl rfl]; exact e63
          have h67 : A.tmps[67]?.getD undef = .int .i64 s.area := by rw [← hA, mkAct_in2 _ _ _ _ rfl rfl]; exact e67
          have h69 : A.tmps[69]?.getD undef = .int .i64 (2 + (kn : Int)) := by rw [← hA, mkAct_in2 _ _ _ _ rfl rfl]; exact e69
          refine float_u (fun K hK => ?_)
          go_simp
          refine (cb w' (hJ.1 (not_yet hb (by kernel_rfl)))).mono ?_
          rintro e w2 ⟨rfl, hx2⟩
          exact hK w2 hx2
        case f12_3 =>
          intro f v g w' hJ hfi hb hd
          refine arm_u rfl ?_
          refine op_run rfl ?_
          generalize hA : mkAct _ _ g = A
          have h0 : A.tmps[0]?.getD undef = .pointer (some ⟨q, 0, none⟩) := by rw [← hA]; exact mkAct_out2 _ _ _ _ _ rfl rfl
          refine step_val (v := .pointer (some ⟨q, 0, none⟩)) (w' := w') ?_ ⟨rfl, Ext.refl _ _⟩
          simp [execOp, h0, Result.andThen, go_sem]
        case f13_3 =>
          intro f v g w' hJ hfi hb hd
          refine arm_u rfl ?_
          refine op_run rfl ?_
          have e71 : g 71 = .pointer (some ⟨q, 0, none⟩) := value_u (hd ⟨12, .data⟩ (by simp) rfl) rfl rfl
          generalize hA : mkAct _ _ g = A
          have h71 : A.tmps[71]?.getD undef = .pointer (some ⟨q, 0, none⟩) := by rw [← hA, mkAct_in2 _ _ _ _ rfl rfl]; exact e71
          refine step_val (v := .pointer (some ⟨q, 0, none⟩)) (w' := w') ?_ ⟨rfl, Ext.refl _ _⟩
          simp [execOp, h71, Result.andThen, go_sem]
        case f14_3 =>
          intro f v g w' hJ hfi hb hd
          refine arm_u rfl ?_
          refine op_run rfl ?_
          have e72 : g 72 = .pointer (some ⟨q, 0, none⟩) := value_u (hd ⟨13, .data⟩ (by simp) rfl) rfl rfl
          generalize hA : mkAct _ _ g = A
          have h72 : A.tmps[72]?.getD undef = .pointer (some ⟨q, 0, none⟩) := by rw [← hA, mkAct_in2 _ _ _ _ rfl rfl]; exact e72
          refine step_val (v := .pointer (some ⟨q, 3, none⟩)) (w' := w') ?_ ⟨rfl, Ext.refl _ _⟩
          simp [execOp, h72, Result.andThen, go_sem]
        case f15_3 =>
          intro f v g w' hJ hfi hb hd
          refine arm_u rfl ?_
          refine op_run rfl ?_
          have e73 : g 73 = .pointer (some ⟨q, 3, none⟩) := value_u (hd ⟨14, .data⟩ (by simp) rfl) rfl rfl
          generalize hA : mkAct _ _ g = A
          have h73 : A.tmps[73]?.getD undef = .pointer (some ⟨q, 3, none⟩) := by rw [← hA, mkAct_in2 _ _ _ _ rfl rfl]; exact e73
          refine step_val (v := .pointer (some ⟨q, 3, none⟩)) (w' := w') ?_ ⟨rfl, Ext.refl _ _⟩
          simp [execOp, h73, Result.andThen, go_sem]
        case f16_3 =>
          intro f v g w' hJ hfi hb hd
          refine arm_u rfl ?_
          refine op_run rfl ?_
          have e74 : g 74 = .pointer (some ⟨q, 3, none⟩) := value_u (hd ⟨15, .data⟩ (by simp) rfl) rfl rfl
          generalize hA : mkAct _ _ g = A
          have h74 : A.tmps[74]?.getD undef = .pointer (some ⟨q, 3, none⟩) := by rw [← hA, mkAct_in2 _ _ _ _ rfl rfl]; exact e74
          have c := (cq3 w' hJ.2.2).2.2
          refine step_val (v := .int .i64 s.list.idx) (w' := w') ?_ ⟨rfl, Ext.refl _ _⟩
          simp [execOp, h74, c, Result.andThen, go_sem]
        case f17_3 =>
          intro f v g w' hJ hfi hb hd
          refine arm_u rfl ?_
          refine op_run rfl ?_
          generalize hA : mkAct _ _ g = A
          have h1 : A.tmps[1]?.getD undef = .int .i64 (kn : Int) := by rw [← hA]; exact mkAct_out2 _ _ _ _ _ rfl rfl
          refine step_val (v := .int .i64 (kn : Int)) (w' := w') ?_ ⟨rfl, Ext.refl _ _⟩
          simp [execOp, h1, Result.andThen, go_sem]
        case f18_3 =>
          intro f v g w' hJ hfi hb hd
          refine arm_u rfl ?_
          refine op_run rfl ?_
          generalize hA : mkAct _ _ g = A
          have h2 : A.tmps[2]?.getD undef = .string ⟨d.toArray⟩ := by rw [← hA]; exact mkAct_out2 _ _ _ _ _ rfl rfl
          refine step_val (v := .string ⟨d.toArray⟩) (w' := w') ?_ ⟨rfl, Ext.refl _ _⟩
          simp [execOp, h2, Result.andThen, go_sem]
        case f19_3 =>
          intro f v g w' hJ hfi hb hd
          refine arm_u rfl ?_
          refine op_run rfl ?_
          have e75 : g 75 = .int .i64 s.list.idx := value_u (hd ⟨16, .data⟩ (by simp) rfl) rfl rfl
          have e76 : g 76 = .int .i64 (kn : Int) := value_u (hd ⟨17, .data⟩ (by simp) rfl) rfl rfl
          have e77 : g 77 = .string ⟨d.toArray⟩ := value_u (hd ⟨18, .data⟩ (by simp) rfl) rfl rfl
          generalize hA : mkAct _ _ g = A
          have h75 : A.tmps[75]?.getD undef = .int .i64 s.list.idx := by rw [← hA, mkAct_in2 _ _ _ _ rfl rfl]; exact e75
          have h76 : A.tmps[76]?.getD undef = .int .i64 (kn : Int) := by rw [← hA, mkAct_in2 _ _ _ _ rfl rfl]; exact e76
          have h77 : A.tmps[77]?.getD undef = .string ⟨d.toArray⟩ := by rw [← hA, mkAct_in2 _ _ _ _ rfl rfl]; exact e77
          refine step_val (v := .agg #[.int .i64 5, .int .i64 s.list.idx, .int .i64 (kn : Int), .string ⟨d.toArray⟩]) (w' := w') ?_ ⟨rfl, Ext.refl _ _⟩
          simp [execOp, h75, h76, h77, Result.andThen, go_sem]
        case f20_3 =>
          intro f v g w' hJ hfi hb hd
          refine arms_u rfl ?_
          refine op_run rfl ?_
          have e62 : g 62 = .pointer (some ⟨b, 0, none⟩) := value_u (hd ⟨3, .data⟩ (by simp) rfl) rfl rfl
          have e70 : g 70 = .int .i64 Bl := value_u (hd ⟨11, .data⟩ (by simp) rfl) rfl rfl
          have e78 : g 78 = .agg #[.int .i64 5, .int .i64 s.list.idx, .int .i64 (kn : Int), .string ⟨d.toArray⟩] := value_u (hd ⟨19, .data⟩ (by simp) rfl) rfl rfl
          generalize hA : mkAct _ _ g = A
          have h62 : A.tmps[62]?.getD undef = .pointer (some ⟨b, 0, none⟩) := by rw [← hA, mkAct_in2 _ _ _ _ rfl rfl]; exact e62
          have h70 : A.tmps[70]?.getD undef = .int .i64 Bl := by rw [← hA, mkAct_in2 _ _ _ _ rfl rfl]; exact e70
          have h78 : A.tmps[78]?.getD undef = .agg #[.int .i64 5, .int .i64 s.list.idx, .int .i64 (kn : Int), .string ⟨d.toArray⟩] := by rw [← hA, mkAct_in2 _ _ _ _ rfl rfl]; exact e78
          refine mid_u (fun K hK => ?_)
          go_simp
          refine (cw w' (hJ.1 hfi)).mono ?_
          rintro e w2 ⟨rfl, hd2, hk2⟩
          exact hK (.int .i64 E1) w2 ⟨fun h => (by cases h), fun _ => ⟨setU_same _ _ _, hd2⟩, hJ.2.2.trans hk2⟩
        case f21_3 =>
          intro f v g w' hJ hfi hb hd
          refine arm_u rfl ?_
          refine op_run rfl ?_
          obtain ⟨hf79, e79⟩ := special_u (hd ⟨20, .data⟩ (by simp) rfl) rfl rfl
          replace e79 : g 79 = v 20 := e79
          have e20x := (hJ.2.1 hf79).1
          rw [e20x] at e79
          generalize hA : mkAct _ _ g = A
          have h79 : A.tmps[79]?.getD undef = .int .i64 E1 := by rw [← hA, mkAct_in2 _ _ _ _ rfl rfl]; exact e79
          refine step_val (v := .int .i64 E1) (w' := w') ?_ ⟨rfl, Ext.refl _ _⟩
          simp [execOp, h79, Result.andThen, go_sem]
      intro f v g wn hJ hk
      have e7 : g 7 = .int .i64 E1 := value_u (hk 21 (by decide)) rfl rfl
      obtain ⟨-, j2, j3⟩ := hJ
      have HD2 := Hid.of (j2 ((hk 20 (by decide)).2 rfl).1).2
      have HK2 := Hid.of j3
      have cqn := (cq3 wn j3).1
      clear cq3 cb cw j2 j3 hk
      unfold mkAct; simp only [List.zipIdx_cons, List.zipIdx_nil, List.map_cons, List.map_nil, Nat.zero_add, Nat.reduceAdd, List.contains_cons, List.contains_nil, Nat.reduceBEq, Bool.or_false, Bool.or_true, ↓reduceIte, Bool.false_eq_true]
      rw [e7]
      clear e7
      by_cases h0 : E1 = 0
      · have HO2 := Hid.of (HO1.out.trans (if_pos h0))
        subst h0
        have cf := flush_o b D2 w0 wn _ HD2.out
        go_wp2_with ((go_at_call 40; (with_reducible refine cf.mono ?_); rintro e w4 ⟨rfl, hd4, hk4⟩; have H4 := Hid.of (HSm.out.devt hd4 (HK2.out.trans hk4)); clear hd4 hk4 cf cqn))
        go_ret
        rw [HM3.out, HO2.out]
        exact ⟨rfl, H4.out.1, (Kept.of HXE.out).trans H4.out.2⟩
      · have HO2 := Hid.of (HO1.out.trans (if_neg h0))
        clear cqn
        have H4 := Hid.of (HSm.out.devt HD2.out HK2.out)
        go_wp2
        go_ret
        rw [HM3.out, HO2.out]
        exact ⟨rfl, H4.out.1, (Kept.of HXE.out).trans H4.out.2⟩
    · have HM2 := Hid.of (HMX.out.trans (if_neg (fun h => e6 h.2)))
      clear HMX
      subst e5
      refine wp_region_u [8, 9, 10, 11, 12, 13, 14, 15, 16, 17, 18, 19, 20, 21, 22, 23, 24, 25, 26, 27, 28, 29, 30, 31, 32, 33, 34, 35, 36, 37, 38, 39, 40, 41, 42, 43, 44, 45, 46, 47, 48, 49, 50, 51, 52, 53, 54, 55, 56, 57, 58] [25] (fun n => match n with | 0 => .pointer (some ⟨q, 0, none⟩) | 1 => .bool false | 2 => .bool false | 3 => .pointer (some ⟨q, 0, none⟩) | 4 => .pointer (some ⟨q, 0, none⟩) | 5 => .pointer (some ⟨q, 2, none⟩) | 6 => .int .i64 s.area | 7 => .bool false | 8 => .bool false | 9 => .bool false | 10 => .int .i64 (kn : Int) | 11 => .bool false | 12 => .bool false | 13 => .bool false | 14 => .int .i64 (kn : Int) | 15 => .pointer (some ⟨q, 0, none⟩) | 16 => .pointer (some ⟨q, 0, none⟩) | 17 => .pointer (some ⟨q, 3, none⟩) | 18 => .pointer (some ⟨q, 6, none⟩) | 19 => .slice (some ⟨g0, off, none⟩) s.list.sums.length cap | 20 => .int .i64 (s.list.sums.length : Nat) | 21 => .bool false | 22 => .bool false | 23 => .bool false | 24 => .string ⟨d.toArray⟩ | 26 => .int .u32 (u32v (sumOf d)) | 27 => .pointer (some ⟨q, 0, none⟩) | 28 => .pointer (some ⟨q, 0, none⟩) | 29 => .pointer (some ⟨q, 3, none⟩) | 30 => .pointer (some ⟨q, 6, none⟩) | 31 => .slice (some ⟨g0, off, none⟩) s.list.sums.length cap | 32 => .int .i64 (kn : Int) | 33 => .pointer (some ⟨g0, off + kn, none⟩) | 34 => .int .u32 (u32v (sumOf d)) | 35 => .bool false | 36 => .bool false | 37 => .bool false | 38 => .string ⟨d.toArray⟩ | 39 => .int .i64 (d.length : Int) | 40 => .pointer (some ⟨q, 0, none⟩) | 41 => .pointer (some ⟨q, 0, none⟩) | 42 => .pointer (some ⟨q, 3, none⟩) | 43 => .pointer (some ⟨q, 5, none⟩) | 44 => .int .i64 s.list.bytes | 45 => .int .i64 (kn : Int) | 46 => .int .i64 ((kn : Int) * 400) | 47 => .int .i64 (s.list.bytes - (kn : Int) * 400) | 48 => .int .i64 (min 400 (s.list.bytes - (kn : Int) * 400)) | 49 => .bool true | 50 => .bool true | _ => undef) (fun f v wx => Ext [] w wx ∧ (f 25 = true → ∃ z, v 25 = .slice (some ⟨z, 0, none⟩) 1 1 ∧ Blk wx z 9 [str d])) (by kernel_rfl) (by kernel_rfl) ?hst0_1e ?h00_1e ?hst_1e ?hend_1e
      case hst0_1e =>
        rintro f v w w' ⟨hx, j3⟩ hx2
        refine ⟨hx.then0 hx2, fun h => ?_⟩
        obtain ⟨z, ez, hz⟩ := j3 h
        exact ⟨z, ez, Blk.keep hz hx2 List.not_mem_nil⟩
      case h00_1e =>
        exact ⟨Ext.refl _ _, fun h => (by cases h)⟩
      case hst_1e =>
        refine ⟨?f0_1e, ?f1_1e, ?f2_1e, ?f3_1e, ?f4_1e, ?f5_1e, ?f6_1e, ?f7_1e, ?f8_1e, ?f9_1e, ?f10_1e, ?f11_1e, ?f12_1e, ?f13_1e, ?f14_1e, ?f15_1e, ?f16_1e, ?f17_1e, ?f18_1e, ?f19_1e, ?f20_1e, ?f21_1e, ?f22_1e, ?f23_1e, ?f24_1e, ?f25_1e, ?f26_1e, ?f27_1e, ?f28_1e, ?f29_1e, ?f30_1e, ?f31_1e, ?f32_1e, ?f33_1e, ?f34_1e, ?f35_1e, ?f36_1e, ?f37_1e, ?f38_1e, ?f39_1e, ?f40_1e, ?f41_1e, ?f42_1e, ?f43_1e, ?f44_1e, ?f45_1e, ?f46_1e, ?f47_1e, ?f48_1e, ?f49_1e, ?f50_1e, trivial⟩
        case f0_1e =>
          intro f v g w' hJ hfi hb hd
          refine arm_u rfl ?_
          refine op_run rfl ?_
          generalize hA : mkAct _ _ g = A
          have h0 : A.tmps[0]?.getD undef = .pointer (some ⟨q, 0, none⟩) := by rw [← hA]; exact mkAct_out2 _ _ _ _ _ rfl rfl
          refine step_val (v := .pointer (some ⟨q, 0, none⟩)) (w' := w') ?_ ⟨rfl, Ext.refl _ _⟩
          simp [execOp, h0, Result.andThen, go_sem]
        case f1_1e =>
          intro f v g w' hJ hfi hb hd
          refine arm_u rfl ?_
          refine op_run rfl ?_
          have e8 : g 8 = .pointer (some ⟨q, 0, none⟩) := value_u (hd ⟨0, .data⟩ (by simp) rfl) rfl rfl
          generalize hA : mkAct _ _ g = A
          have h8 : A.tmps[8]?.getD undef = .pointer (some ⟨q, 0, none⟩) := by rw [← hA, mkAct_in2 _ _ _ _ rfl rfl]; exact e8
          refine step_val (v := .bool false) (w' := w') ?_ ⟨rfl, Ext.refl _ _⟩
          simp [execOp, h8, Result.andThen, go_sem]
        case f2_1e =>
          intro f v g w' hJ hfi hb hd
          refine arm_u rfl ?_
          refine op_run rfl ?_
          have e9 : g 9 = .bool false := value_u (hd ⟨1, .data⟩ (by simp) rfl) rfl rfl
          generalize hA : mkAct _ _ g = A
          have h9 : A.tmps[9]?.getD undef = .bool false := by rw [← hA, mkAct_in2 _ _ _ _ rfl rfl]; exact e9
          refine step_val (v := .bool false) (w' := w') ?_ ⟨rfl, Ext.refl _ _⟩
          simp [execOp, h9, Result.andThen, go_sem]
        case f3_1e =>
          intro f v g w' hJ hfi hb hd
          refine arm_u rfl ?_
          have eg : g 10 = .bool false := value_u (hd ⟨2, .guard⟩ (by simp) rfl) rfl rfl
          refine op_yes rfl rfl rfl rfl eg ?_
          generalize hA : mkAct _ _ g = A
          have h0 : A.tmps[0]?.getD undef = .pointer (some ⟨q, 0, none⟩) := by rw [← hA]; exact mkAct_out2 _ _ _ _ _ rfl rfl
          refine step_val (v := .pointer (some ⟨q, 0, none⟩)) (w' := w') ?_ ⟨rfl, Ext.refl _ _⟩
          simp [execOp, h0, Result.andThen, go_sem]
        case f4_1e =>
          intro f v g w' hJ hfi hb hd
          refine arm_u rfl ?_
          have eg : g 10 = .bool false := value_u (hd ⟨2, .guard⟩ (by simp) rfl) rfl rfl
          refine op_yes rfl rfl rfl rfl eg ?_
          have e11 : g 11 = .pointer (some ⟨q, 0, none⟩) := value_u (hd ⟨3, .data⟩ (by simp) rfl) rfl rfl
          generalize hA : mkAct _ _ g = A
          have h11 : A.tmps[11]?.getD undef = .pointer (some ⟨q, 0, none⟩) := by rw [← hA, mkAct_in2 _ _ _ _ rfl rfl]; exact e11
          refine step_val (v := .pointer (some ⟨q, 0, none⟩)) (w' := w') ?_ ⟨rfl, Ext.refl _ _⟩
          simp [execOp, h11, Result.andThen, go_sem]
        case f5_1e =>
          intro f v g w' hJ hfi hb hd
          refine arm_u rfl ?_
          have eg : g 10 = .bool false := value_u (hd ⟨2, .guard⟩ (by simp) rfl) rfl rfl
          refine op_yes rfl rfl rfl rfl eg ?_
          have e12 : g 12 = .pointer (some ⟨q, 0, none⟩) := value_u (hd ⟨4, .data⟩ (by simp) rfl) rfl rfl
          generalize hA : mkAct _ _ g = A
          have h12 : A.tmps[12]?.getD undef = .pointer (some ⟨q, 0, none⟩) := by rw [← hA, mkAct_in2 _ _ _ _ rfl rfl]; exact e12
          refine step_val (v := .pointer (some ⟨q, 2, none⟩)) (w' := w') ?_ ⟨rfl, Ext.refl _ _⟩
          simp [execOp, h12, Result.andThen, go_sem]
        case f6_1e =>
          intro f v g w' hJ hfi hb hd
          refine arm_u rfl ?_
          have eg : g 10 = .bool false := value_u (hd ⟨2, .guard⟩ (by simp) rfl) rfl rfl
          refine op_yes rfl rfl rfl rfl eg ?_
          have e13 : g 13 = .pointer (some ⟨q, 2, none⟩) := value_u (hd ⟨5, .data⟩ (by simp) rfl) rfl rfl
          generalize hA : mkAct _ _ g = A
          have h13 : A.tmps[13]?.getD undef = .pointer (some ⟨q, 2, none⟩) := by rw [← hA, mkAct_in2 _ _ _ _ rfl rfl]; exact e13
          have c := (cq w' hJ.1).2.2.1
          refine step_val (v := .int .i64 s.area) (w' := w') ?_ ⟨rfl, Ext.refl _ _⟩
          simp [execOp, h13, c, Result.andThen, go_sem]
        case f7_1e =>
          intro f v g w' hJ hfi hb hd
          refine arm_u rfl ?_
          have eg : g 10 = .bool false := value_u (hd ⟨2, .guard⟩ (by simp) rfl) rfl rfl
          refine op_yes rfl rfl rfl rfl eg ?_
          have e14 : g 14 = .int .i64 s.area := value_u (hd ⟨6, .data⟩ (by simp) rfl) rfl rfl
          generalize hA : mkAct _ _ g = A
          have h14 : A.tmps[14]?.getD undef = .int .i64 s.area := by rw [← hA, mkAct_in2 _ _ _ _ rfl rfl]; exact e14
          refine step_val (v := .bool false) (w' := w') ?_ ⟨rfl, Ext.refl _ _⟩
          simp [execOp, e1, h14, Result.andThen, go_sem]
        case f8_1e =>
          intro f v g w' hJ hfi hb hd
          refine arm_u rfl ?_
          refine op_run rfl ?_
          have e10 : g 10 = .bool false := value_u (hd ⟨2, .data⟩ (by simp) rfl) rfl rfl
          have e15 : g 15 = .bool false := value_u (hd ⟨7, .data⟩ (by simp) rfl) rfl rfl
          generalize hA : mkAct _ _ g = A
          have h10 : A.tmps[10]?.getD undef = .bool false := by rw [← hA, mkAct_in2 _ _ _ _ rfl rfl]; exact e10
          have h15 : A.tmps[15]?.getD undef = .bool false := by rw [← hA, mkAct_in2 _ _ _ _ rfl rfl]; exact e15
          refine step_val (v := .bool false) (w' := w') ?_ ⟨rfl, Ext.refl _ _⟩
          simp [execOp, h10, h15, Result.andThen, go_sem]
        case f9_1e =>
          intro f v g w' hJ hfi hb hd
          refine arm_u rfl ?_
          refine op_run rfl ?_
          have e16 : g 16 = .bool false := value_u (hd ⟨8, .data⟩ (by simp) rfl) rfl rfl
          generalize hA : mkAct _ _ g = A
          have h16 : A.tmps[16]?.getD undef = .bool false := by rw [← hA, mkAct_in2 _ _ _ _ rfl rfl]; exact e16
          refine step_val (v := .bool false) (w' := w') ?_ ⟨rfl, Ext.refl _ _⟩
          simp [execOp, h16, Result.andThen, go_sem]
        case f10_1e =>
          intro f v g w' hJ hfi hb hd
          refine arm_u rfl ?_
          have eg : g 17 = .bool false := value_u (hd ⟨9, .guard⟩ (by simp) rfl) rfl rfl
          refine op_yes rfl rfl rfl rfl eg ?_
          generalize hA : mkAct _ _ g = A
          have h1 : A.tmps[1]?.getD undef = .int .i64 (kn : Int) := by rw [← hA]; exact mkAct_out2 _ _ _ _ _ rfl rfl
          refine step_val (v := .int .i64 (kn : Int)) (w' := w') ?_ ⟨rfl, Ext.refl _ _⟩
          simp [execOp, h1, Result.andThen, go_sem]
        case f11_1e =>
          intro f v g w' hJ hfi hb hd
          refine arm_u rfl ?_
          have eg : g 17 = .bool false := value_u (hd ⟨9, .guard⟩ (by simp) rfl) rfl rfl
          refine op_yes rfl rfl rfl rfl eg ?_
          have e18 : g 18 = .int .i64 (kn : Int) := value_u (hd ⟨10, .data⟩ (by simp) rfl) rfl rfl
          generalize hA : mkAct _ _ g = A
          have h18 : A.tmps[18]?.getD undef = .int .i64 (kn : Int) := by rw [← hA, mkAct_in2 _ _ _ _ rfl rfl]; exact e18
          refine step_val (v := .bool false) (w' := w') ?_ ⟨rfl, Ext.refl _ _⟩
          simp [execOp, e2, h18, Result.andThen, go_sem]
        case f12_1e =>
          intro f v g w' hJ hfi hb hd
          refine arm_u rfl ?_
          refine op_run rfl ?_
          have e17 : g 17 = .bool false := value_u (hd ⟨9, .data⟩ (by simp) rfl) rfl rfl
          have e19 : g 19 = .bool false := value_u (hd ⟨11, .data⟩ (by simp) rfl) rfl rfl
          generalize hA : mkAct _ _ g = A
          have h17 : A.tmps[17]?.getD undef = .bool false := by rw [← hA, mkAct_in2 _ _ _ _ rfl rfl]; exact e17
          have h19 : A.tmps[19]?.getD undef = .bool false := by rw [← hA, mkAct_in2 _ _ _ _ rfl rfl]; exact e19
          refine step_val (v := .bool false) (w' := w') ?_ ⟨rfl, Ext.refl _ _⟩
          simp [execOp, h17, h19, Result.andThen, go_sem]
        case f13_1e =>
          intro f v g w' hJ hfi hb hd
          refine arm_u rfl ?_
          refine op_run rfl ?_
          have e20 : g 20 = .bool false := value_u (hd ⟨12, .data⟩ (by simp) rfl) rfl rfl
          generalize hA : mkAct _ _ g = A
          have h20 : A.tmps[20]?.getD undef = .bool false := by rw [← hA, mkAct_in2 _ _ _ _ rfl rfl]; exact e20
          refine step_val (v := .bool false) (w' := w') ?_ ⟨rfl, Ext.refl _ _⟩
          simp [execOp, h20, Result.andThen, go_sem]
        case f14_1e =>
          intro f v g w' hJ hfi hb hd
          refine arm_u rfl ?_
          have eg : g 21 = .bool false := value_u (hd ⟨13, .guard⟩ (by simp) rfl) rfl rfl
          refine op_yes rfl rfl rfl rfl eg ?_
          generalize hA : mkAct _ _ g = A
          have h1 : A.tmps[1]?.getD undef = .int .i64 (kn : Int) := by rw [← hA]; exact mkAct_out2 _ _ _ _ _ rfl rfl
          refine step_val (v := .int .i64 (kn : Int)) (w' := w') ?_ ⟨rfl, Ext.refl _ _⟩
          simp [execOp, h1, Result.andThen, go_sem]
        case f15_1e =>
          intro f v g w' hJ hfi hb hd
          refine arm_u rfl ?_
          have eg : g 21 = .bool false := value_u (hd ⟨13, .guard⟩ (by simp) rfl) rfl rfl
          refine op_yes rfl rfl rfl rfl eg ?_
          generalize hA : mkAct _ _ g = A
          have h0 : A.tmps[0]?.getD undef = .pointer (some ⟨q, 0, none⟩) := by rw [← hA]; exact mkAct_out2 _ _ _ _ _ rfl rfl
          refine step_val (v := .pointer (some ⟨q, 0, none⟩)) (w' := w') ?_ ⟨rfl, Ext.refl _ _⟩
          simp [execOp, h0, Result.andThen, go_sem]
        case f16_1e =>
          intro f v g w' hJ hfi hb hd
          refine arm_u rfl ?_
          have eg : g 21 = .bool false := value_u (hd ⟨13, .guard⟩ (by simp) rfl) rfl rfl
          refine op_yes rfl rfl rfl rfl eg ?_
          have e23 : g 23 = .pointer (some ⟨q, 0, none⟩) := value_u (hd ⟨15, .data⟩ (by simp) rfl) rfl rfl
          generalize hA : mkAct _ _ g = A
          have h23 : A.tmps[23]?.getD undef = .pointer (some ⟨q, 0, none⟩) := by rw [← hA, mkAct_in2 _ _ _ _ rfl rfl]; exact e23
          refine step_val (v := .pointer (some ⟨q, 0, none⟩)) (w' := w') ?_ ⟨rfl, Ext.refl _ _⟩
          simp [execOp, h23, Result.andThen, go_sem]
        case f17_1e =>
          intro f v g w' hJ hfi hb hd
          refine arm_u rfl ?_
          have eg : g 21 = .bool false := value_u (hd ⟨13, .guard⟩ (by simp) rfl) rfl rfl
          refine op_yes rfl rfl rfl rfl eg ?_
          have e24 : g 24 = .pointer (some ⟨q, 0, none⟩) := value_u (hd ⟨16, .data⟩ (by simp) rfl) rfl rfl
          generalize hA : mkAct _ _ g = A
          have h24 : A.tmps[24]?.getD undef = .pointer (some ⟨q, 0, none⟩) := by rw [← hA, mkAct_in2 _ _ _ _ rfl rfl]; exact e24
          refine step_val (v := .pointer (some ⟨q, 3, none⟩)) (w' := w') ?_ ⟨rfl, Ext.refl _ _⟩
          simp [execOp, h24, Result.andThen, go_sem]
        case f18_1e =>
          intro f v g w' hJ hfi hb hd
          refine arm_u rfl ?_
          have eg : g 21 = .bool false := value_u (hd ⟨13, .guard⟩ (by simp) rfl) rfl rfl
          refine op_yes rfl rfl rfl rfl eg ?_
          have e25 : g 25 = .pointer (some ⟨q, 3, none⟩) := value_u (hd ⟨17, .data⟩ (by simp) rfl) rfl rfl
          generalize hA : mkAct _ _ g = A
          have h25 : A.tmps[25]?.getD undef = .pointer (some ⟨q, 3, none⟩) := by rw [← hA, mkAct_in2 _ _ _ _ rfl rfl]; exact e25
          refine step_val (v := .pointer (some ⟨q, 6, none⟩)) (w' := w') ?_ ⟨rfl, Ext.refl _ _⟩
          simp [execOp, h25, Result.andThen, go_sem]
        case f19_1e =>
          intro f v g w' hJ hfi hb hd
          refine arm_u rfl ?_
          have eg : g 21 = .bool false := value_u (hd ⟨13, .guard⟩ (by simp) rfl) rfl rfl
          refine op_yes rfl rfl rfl rfl eg ?_
          have e26 : g 26 = .pointer (some ⟨q, 6, none⟩) := value_u (hd ⟨18, .data⟩ (by simp) rfl) rfl rfl
          generalize hA : mkAct _ _ g = A
          have h26 : A.tmps[26]?.getD undef = .pointer (some ⟨q, 6, none⟩) := by rw [← hA, mkAct_in2 _ _ _ _ rfl rfl]; exact e26
          have c := (cq w' hJ.1).2.2.2.2.2.2
          refine step_val (v := .slice (some ⟨g0, off, none⟩) s.list.sums.length cap) (w' := w') ?_ ⟨rfl, Ext.refl _ _⟩
          simp [execOp, h26, c, Result.andThen, go_sem]
        case f20_1e =>
          intro f v g w' hJ hfi hb hd
          refine arm_u rfl ?_
          have eg : g 21 = .bool false := value_u (hd ⟨13, .guard⟩ (by simp) rfl) rfl rfl
          refine op_yes rfl rfl rfl rfl eg ?_
          have e27 : g 27 = .slice (some ⟨g0, off, none⟩) s.list.sums.length cap := value_u (hd ⟨19, .data⟩ (by simp) rfl) rfl rfl
          generalize hA : mkAct _ _ g = A
          have h27 : A.tmps[27]?.getD undef = .slice (some ⟨g0, off, none⟩) s.list.sums.length cap := by rw [← hA, mkAct_in2 _ _ _ _ rfl rfl]; exact e27
          refine step_val (v := .int .i64 (s.list.sums.length : Nat)) (w' := w') ?_ ⟨rfl, Ext.refl _ _⟩
          simp [execOp, h27, Result.andThen, go_sem]
        case f21_1e =>
          intro f v g w' hJ hfi hb hd
          refine arm_u rfl ?_
          have eg : g 21 = .bool false := value_u (hd ⟨13, .guard⟩ (by simp) rfl) rfl rfl
          refine op_yes rfl rfl rfl rfl eg ?_
          have e22 : g 22 = .int .i64 (kn : Int) := value_u (hd ⟨14, .data⟩ (by simp) rfl) rfl rfl
          have e28 : g 28 = .int .i64 (s.list.sums.length : Nat) := value_u (hd ⟨20, .data⟩ (by simp) rfl) rfl rfl
          generalize hA : mkAct _ _ g = A
          have h22 : A.tmps[22]?.getD undef = .int .i64 (kn : Int) := by rw [← hA, mkAct_in2 _ _ _ _ rfl rfl]; exact e22
          have h28 : A.tmps[28]?.getD undef = .int .i64 (s.list.sums.length : Nat) := by rw [← hA, mkAct_in2 _ _ _ _ rfl rfl]; exact e28
          refine step_val (v := .bool false) (w' := w') ?_ ⟨rfl, Ext.refl _ _⟩
          simp [execOp, e3, h22, h28, Result.andThen, go_sem]
          all_goals (first | exact hkl | omega)
        case f22_1e =>
          intro f v g w' hJ hfi hb hd
          refine arm_u rfl ?_
          refine op_run rfl ?_
          have e21 : g 21 = .bool false := value_u (hd ⟨13, .data⟩ (by simp) rfl) rfl rfl
          have e29 : g 29 = .bool false := value_u (hd ⟨21, .data⟩ (by simp) rfl) rfl rfl
          generalize hA : mkAct _ _ g = A
          have h21 : A.tmps[21]?.getD undef = .bool false := by rw [← hA, mkAct_in2 _ _ _ _ rfl rfl]; exact e21
          have h29 : A.tmps[29]?.getD undef = .bool false := by rw [← hA, mkAct_in2 _ _ _ _ rfl rfl]; exact e29
          refine step_val (v := .bool false) (w' := w') ?_ ⟨rfl, Ext.refl _ _⟩
          simp [execOp, h21, h29, Result.andThen, go_sem]
        case f23_1e =>
          intro f v g w' hJ hfi hb hd
          refine arm_u rfl ?_
          refine op_run rfl ?_
          have e30 : g 30 = .bool false := value_u (hd ⟨22, .data⟩ (by simp) rfl) rfl rfl
          generalize hA : mkAct _ _ g = A
          have h30 : A.tmps[30]?.getD undef = .bool false := by rw [← hA, mkAct_in2 _ _ _ _ rfl rfl]; exact e30
          refine step_val (v := .bool false) (w' := w') ?_ ⟨rfl, Ext.refl _ _⟩
          simp [execOp, h30, Result.andThen, go_sem]
        case f24_1e =>
          intro f v g w' hJ hfi hb hd
          refine arm_u rfl ?_
          have eg : g 31 = .bool false := value_u (hd ⟨23, .guard⟩ (by simp) rfl) rfl rfl
          refine op_yes rfl rfl rfl rfl eg ?_
          generalize hA : mkAct _ _ g = A
          have h2 : A.tmps[2]?.getD undef = .string ⟨d.toArray⟩ := by rw [← hA]; exact mkAct_out2 _ _ _ _ _ rfl rfl
          refine step_val (v := .string ⟨d.toArray⟩) (w' := w') ?_ ⟨rfl, Ext.refl _ _⟩
          simp [execOp, h2, Result.andThen, go_sem]
        case f25_1e =>
          intro f v g w' hJ hfi hb hd
          refine arms_u rfl ?_
          have eg : g 31 = .bool false := value_u (hd ⟨23, .guard⟩ (by simp) rfl) rfl rfl
          refine op_yes rfl rfl rfl rfl eg ?_
          have e32 : g 32 = .string ⟨d.toArray⟩ := value_u (hd ⟨24, .data⟩ (by simp) rfl) rfl rfl
          generalize hA : mkAct _ _ g = A
          have h32 : A.tmps[32]?.getD undef = .string ⟨d.toArray⟩ := by rw [← hA, mkAct_in2 _ _ _ _ rfl rfl]; exact e32
          have hxa : Ext [] w' (w'.alloc (.cells #[.string ⟨d.toArray⟩] 9)) := (Ext.refl _ _).alloc _
          refine step_val (v := .slice (some ⟨w'.heap.size, 0, none⟩) 1 1) (w' := w'.alloc (.cells #[.string ⟨d.toArray⟩] 9)) ?_ ⟨_, rfl, hJ.1.then0 hxa, fun _ => ⟨w'.heap.size, setU_same _ _ _, Blk.new w' 9 #[str d]⟩⟩
          simp [execOp, h32, Result.andThen, go_sem]
        case f26_1e =>
          intro f v g w' hJ hfi hb hd
          refine arm_u rfl ?_
          have eg : g 31 = .bool false := value_u (hd ⟨23, .guard⟩ (by simp) rfl) rfl rfl
          refine op_yes rfl rfl rfl rfl eg ?_
          obtain ⟨hf33, e33⟩ := special_u (hd ⟨25, .data⟩ (by simp) rfl) rfl rfl
          replace e33 : g 33 = v 25 := e33
          obtain ⟨z, ez, hz⟩ := hJ.2 hf33
          rw [ez] at e33
          generalize hA : mkAct _ _ g = A
          have h33 : A.tmps[33]?.getD undef = .slice (some ⟨z, 0, none⟩) 1 1 := by rw [← hA, mkAct_in2 _ _ _ _ rfl rfl]; exact e33
          refine float_u (fun K hK => ?_)
          go_simp
          refine (ofStr_any d w' z hz (by omega)).mono ?_
          rintro e w2 ⟨rfl, hx2⟩
          exact hK w2 hx2
        case f27_1e =>
          intro f v g w' hJ hfi hb hd
          refine arm_u rfl ?_
          have eg : g 31 = .bool false := value_u (hd ⟨23, .guard⟩ (by simp) rfl) rfl rfl
          refine op_yes rfl rfl rfl rfl eg ?_
          generalize hA : mkAct _ _ g = A
          have h0 : A.tmps[0]?.getD undef = .pointer (some ⟨q, 0, none⟩) := by rw [← hA]; exact mkAct_out2 _ _ _ _ _ rfl rfl
          refine step_val (v := .pointer (some ⟨q, 0, none⟩)) (w' := w') ?_ ⟨rfl, Ext.refl _ _⟩
          simp [execOp, h0, Result.andThen, go_sem]
        case f28_1e =>
          intro f v g w' hJ hfi hb hd
          refine arm_u rfl ?_
          have eg : g 31 = .bool false := value_u (hd ⟨23, .guard⟩ (by simp) rfl) rfl rfl
          refine op_yes rfl rfl rfl rfl eg ?_
          have e35 : g 35 = .pointer (some ⟨q, 0, none⟩) := value_u (hd ⟨27, .data⟩ (by simp) rfl) rfl rfl
          generalize hA : mkAct _ _ g = A
          have h35 : A.tmps[35]?.getD undef = .pointer (some ⟨q, 0, none⟩) := by rw [← hA, mkAct_in2 _ _ _ _ rfl rfl]; exact e35
          refine step_val (v := .pointer (some ⟨q, 0, none⟩)) (w' := w') ?_ ⟨rfl, Ext.refl _ _⟩
          simp [execOp, h35, Result.andThen, go_sem]
        case f29_1e =>
          intro f v g w' hJ hfi hb hd
          refine arm_u rfl ?_
          have eg : g 31 = .bool false := value_u (hd ⟨23, .guard⟩ (by simp) rfl) rfl rfl
          refine op_yes rfl rfl rfl rfl eg ?_
          have e36 : g 36 = .pointer (some ⟨q, 0, none⟩) := value_u (hd ⟨28, .data⟩ (by simp) rfl) rfl rfl
          generalize hA : mkAct _ _ g = A
          have h36 : A.tmps[36]?.getD undef = .pointer (some ⟨q, 0, none⟩) := by rw [← hA, mkAct_in2 _ _ _ _ rfl rfl]; exact e36
          refine step_val (v := .pointer (some ⟨q, 3, none⟩)) (w' := w') ?_ ⟨rfl, Ext.refl _ _⟩
          simp [execOp, h36, Result.andThen, go_sem]
        case f30_1e =>
          intro f v g w' hJ hfi hb hd
          refine arm_u rfl ?_
          have eg : g 31 = .bool false := value_u (hd ⟨23, .guard⟩ (by simp) rfl) rfl rfl
          refine op_yes rfl rfl rfl rfl eg ?_
          have e37 : g 37 = .pointer (some ⟨q, 3, none⟩) := value_u (hd ⟨29, .data⟩ (by simp) rfl) rfl rfl
          generalize hA : mkAct _ _ g = A
          have h37 : A.tmps[37]?.getD undef = .pointer (some ⟨q, 3, none⟩) := by rw [← hA, mkAct_in2 _ _ _ _ rfl rfl]; exact e37
          refine step_val (v := .pointer (some ⟨q, 6, none⟩)) (w' := w') ?_ ⟨rfl, Ext.refl _ _⟩
          simp [execOp, h37, Result.andThen, go_sem]
        case f31_1e =>
          intro f v g w' hJ hfi hb hd
          refine arm_u rfl ?_
          have eg : g 31 = .bool false := value_u (hd ⟨23, .guard⟩ (by simp) rfl) rfl rfl
          refine op_yes rfl rfl rfl rfl eg ?_
          have e38 : g 38 = .pointer (some ⟨q, 6, none⟩) := value_u (hd ⟨30, .data⟩ (by simp) rfl) rfl rfl
          generalize hA : mkAct _ _ g = A
          have h38 : A.tmps[38]?.getD undef = .pointer (some ⟨q, 6, none⟩) := by rw [← hA, mkAct_in2 _ _ _ _ rfl rfl]; exact e38
          have c := (cq w' hJ.1).2.2.2.2.2.2
          refine step_val (v := .slice (some ⟨g0, off, none⟩) s.list.sums.length cap) (w' := w') ?_ ⟨rfl, Ext.refl _ _⟩
          simp [execOp, h38, c, Result.andThen, go_sem]
        case f32_1e =>
          intro f v g w' hJ hfi hb hd
          refine arm_u rfl ?_
          have eg : g 31 = .bool false := value_u (hd ⟨23, .guard⟩ (by simp) rfl) rfl rfl
          refine op_yes rfl rfl rfl rfl eg ?_
          generalize hA : mkAct _ _ g = A
          have h1 : A.tmps[1]?.getD undef = .int .i64 (kn : Int) := by rw [← hA]; exact mkAct_out2 _ _ _ _ _ rfl rfl
          refine step_val (v := .int .i64 (kn : Int)) (w' := w') ?_ ⟨rfl, Ext.refl _ _⟩
          simp [execOp, h1, Result.andThen, go_sem]
        case f33_1e =>
          intro f v g w' hJ hfi hb hd
          refine arm_u rfl ?_
          have eg : g 31 = .bool false := value_u (hd ⟨23, .guard⟩ (by simp) rfl) rfl rfl
          refine op_yes rfl rfl rfl rfl eg ?_
          have e39 : g 39 = .slice (some ⟨g0, off, none⟩) s.list.sums.length cap := value_u (hd ⟨31, .data⟩ (by simp) rfl) rfl rfl
          have e40 : g 40 = .int .i64 (kn : Int) := value_u (hd ⟨32, .data⟩ (by simp) rfl) rfl rfl
          generalize hA : mkAct _ _ g = A
          have h39 : A.tmps[39]?.getD undef = .slice (some ⟨g0, off, none⟩) s.list.sums.length cap := by rw [← hA, mkAct_in2 _ _ _ _ rfl rfl]; exact e39
          have h40 : A.tmps[40]?.getD undef = .int .i64 (kn : Int) := by rw [← hA, mkAct_in2 _ _ _ _ rfl rfl]; exact e40
          refine step_val (v := .pointer (some ⟨g0, off + kn, none⟩)) (w' := w') ?_ ⟨rfl, Ext.refl _ _⟩
          simp [execOp, hkl, h39, h40, Result.andThen, go_sem]
          all_goals (first | exact hkl | omega)
        case f34_1e =>
          intro f v g w' hJ hfi hb hd
          refine arm_u rfl ?_
          have eg : g 31 = .bool false := value_u (hd ⟨23, .guard⟩ (by simp) rfl) rfl rfl
          refine op_yes rfl rfl rfl rfl eg ?_
          have e41 : g 41 = .pointer (some ⟨g0, off + kn, none⟩) := value_u (hd ⟨33, .data⟩ (by simp) rfl) rfl rfl
          generalize hA : mkAct _ _ g = A
          have h41 : A.tmps[41]?.getD undef = .pointer (some ⟨g0, off + kn, none⟩) := by rw [← hA, mkAct_in2 _ _ _ _ rfl rfl]; exact e41
          have c := cs w' hJ.1
          refine step_val (v := .int .u32 (u32v (sumOf d))) (w' := w') ?_ ⟨rfl, Ext.refl _ _⟩
          simp [execOp, h41, c, Result.andThen, go_sem]
        case f35_1e =>
          intro f v g w' hJ hfi hb hd
          refine arm_u rfl ?_
          have eg : g 31 = .bool false := value_u (hd ⟨23, .guard⟩ (by simp) rfl) rfl rfl
          refine op_yes rfl rfl rfl rfl eg ?_
          have e34 : g 34 = .int .u32 (u32v (sumOf d)) := value_u (hd ⟨26, .data⟩ (by simp) rfl) rfl rfl
          have e42 : g 42 = .int .u32 (u32v (sumOf d)) := value_u (hd ⟨34, .data⟩ (by simp) rfl) rfl rfl
          generalize hA : mkAct _ _ g = A
          have h34 : A.tmps[34]?.getD undef = .int .u32 (u32v (sumOf d)) := by rw [← hA, mkAct_in2 _ _ _ _ rfl rfl]; exact e34
          have h42 : A.tmps[42]?.getD undef = .int .u32 (u32v (sumOf d)) := by rw [← hA, mkAct_in2 _ _ _ _ rfl rfl]; exact e42
          refine step_val (v := .bool false) (w' := w') ?_ ⟨rfl, Ext.refl _ _⟩
          simp [execOp, h34, h42, Result.andThen, go_sem]
        case f36_1e =>
          intro f v g w' hJ hfi hb hd
          refine arm_u rfl ?_
          refine op_run rfl ?_
          have e31 : g 31 = .bool false := value_u (hd ⟨23, .data⟩ (by simp) rfl) rfl rfl
          have e43 : g 43 = .bool false := value_u (hd ⟨35, .data⟩ (by simp) rfl) rfl rfl
          generalize hA : mkAct _ _ g = A
          have h31 : A.tmps[31]?.getD undef = .bool false := by rw [← hA, mkAct_in2 _ _ _ _ rfl rfl]; exact e31
          have h43 : A.tmps[43]?.getD undef = .bool false := by rw [← hA, mkAct_in2 _ _ _ _ rfl rfl]; exact e43
          refine step_val (v := .bool false) (w' := w') ?_ ⟨rfl, Ext.refl _ _⟩
          simp [execOp, h31, h43, Result.andThen, go_sem]
        case f37_1e =>
          intro f v g w' hJ hfi hb hd
          refine arm_u rfl ?_
          refine op_run rfl ?_
          have e44 : g 44 = .bool false := value_u (hd ⟨36, .data⟩ (by simp) rfl) rfl rfl
          generalize hA : mkAct _ _ g = A
          have h44 : A.tmps[44]?.getD undef = .bool false := by rw [← hA, mkAct_in2 _ _ _ _ rfl rfl]; exact e44
          refine step_val (v := .bool false) (w' := w') ?_ ⟨rfl, Ext.refl _ _⟩
          simp [execOp, h44, Result.andThen, go_sem]
        case f38_1e =>
          intro f v g w' hJ hfi hb hd
          refine arm_u rfl ?_
          have eg : g 45 = .bool false := value_u (hd ⟨37, .guard⟩ (by simp) rfl) rfl rfl
          refine op_yes rfl rfl rfl rfl eg ?_
          generalize hA : mkAct _ _ g = A
          have h2 : A.tmps[2]?.getD undef = .string ⟨d.toArray⟩ := by rw [← hA]; exact mkAct_out2 _ _ _ _ _ rfl rfl
          refine step_val (v := .string ⟨d.toArray⟩) (w' := w') ?_ ⟨rfl, Ext.refl _ _⟩
          simp [execOp, h2, Result.andThen, go_sem]
        case f39_1e =>
          intro f v g w' hJ hfi hb hd
          refine arm_u rfl ?_
          have eg : g 45 = .bool false := value_u (hd ⟨37, .guard⟩ (by simp) rfl) rfl rfl
          refine op_yes rfl rfl rfl rfl eg ?_
          have e46 : g 46 = .string ⟨d.toArray⟩ := value_u (hd ⟨38, .data⟩ (by simp) rfl) rfl rfl
          generalize hA : mkAct _ _ g = A
          have h46 : A.tmps[46]?.getD undef = .string ⟨d.toArray⟩ := by rw [← hA, mkAct_in2 _ _ _ _ rfl rfl]; exact e46
          refine step_val (v := .int .i64 (d.length : Int)) (w' := w') ?_ ⟨rfl, Ext.refl _ _⟩
          simp [execOp, h46, Result.andThen, go_sem]
        case f40_1e =>
          intro f v g w' hJ hfi hb hd
          refine arm_u rfl ?_
          have eg : g 45 = .bool false := value_u (hd ⟨37, .guard⟩ (by simp) rfl) rfl rfl
          refine op_yes rfl rfl rfl rfl eg ?_
          generalize hA : mkAct _ _ g = A
          have h0 : A.tmps[0]?.getD undef = .pointer (some ⟨q, 0, none⟩) := by rw [← hA]; exact mkAct_out2 _ _ _ _ _ rfl rfl
          refine step_val (v := .pointer (some ⟨q, 0, none⟩)) (w' := w') ?_ ⟨rfl, Ext.refl _ _⟩
          simp [execOp, h0, Result.andThen, go_sem]
        case f41_1e =>
          intro f v g w' hJ hfi hb hd
          refine arm_u rfl ?_
          have eg : g 45 = .bool false := value_u (hd ⟨37, .guard⟩ (by simp) rfl) rfl rfl
          refine op_yes rfl rfl rfl rfl eg ?_
          have e48 : g 48 = .pointer (some ⟨q, 0, none⟩) := value_u (hd ⟨40, .data⟩ (by simp) rfl) rfl rfl
          generalize hA : mkAct _ _ g = A
          have h48 : A.tmps[48]?.getD undef = .pointer (some ⟨q, 0, none⟩) := by rw [← hA, mkAct_in2 _ _ _ _ rfl rfl]; exact e48
          refine step_val (v := .pointer (some ⟨q, 0, none⟩)) (w' := w') ?_ ⟨rfl, Ext.refl _ _⟩
          simp [execOp, h48, Result.andThen, go_sem]
        case f42_1e =>
          intro f v g w' hJ hfi hb hd
          refine arm_u rfl ?_
          have eg : g 45 = .bool false := value_u (hd ⟨37, .guard⟩ (by simp) rfl) rfl rfl
          refine op_yes rfl rfl rfl rfl eg ?_
          have e49 : g 49 = .pointer (some ⟨q, 0, none⟩) := value_u (hd ⟨41, .data⟩ (by simp) rfl) rfl rfl
          generalize hA : mkAct _ _ g = A
          have h49 : A.tmps[49]?.getD undef = .pointer (some ⟨q, 0, none⟩) := by rw [← hA, mkAct_in2 _ _ _ _ rfl rfl]; exact e49
          refine step_val (v := .pointer (some ⟨q, 3, none⟩)) (w' := w') ?_ ⟨rfl, Ext.refl _ _⟩
          simp [execOp, h49, Result.andThen, go_sem]
        case f43_1e =>
          intro f v g w' hJ hfi hb hd
          refine arm_u rfl ?_
          have eg : g 45 = .bool false := value_u (hd ⟨37, .guard⟩ (by simp) rfl) rfl rfl
          refine op_yes rfl rfl rfl rfl eg ?_
          have e50 : g 50 = .pointer (some ⟨q, 3, none⟩) := value_u (hd ⟨42, .data⟩ (by simp) rfl) rfl rfl
          generalize hA : mkAct _ _ g = A
          have h50 : A.tmps[50]?.getD undef = .pointer (some ⟨q, 3, none⟩) := by rw [← hA, mkAct_in2 _ _ _ _ rfl rfl]; exact e50
          refine step_val (v := .pointer (some ⟨q, 5, none⟩)) (w' := w') ?_ ⟨rfl, Ext.refl _ _⟩
          simp [execOp, h50, Result.andThen, go_sem]
        case f44_1e =>
          intro f v g w' hJ hfi hb hd
          refine arm_u rfl ?_
          have eg : g 45 = .bool false := value_u (hd ⟨37, .guard⟩ (by simp) rfl) rfl rfl
          refine op_yes rfl rfl rfl rfl eg ?_
          have e51 : g 51 = .pointer (some ⟨q, 5, none⟩) := value_u (hd ⟨43, .data⟩ (by simp) rfl) rfl rfl
          generalize hA : mkAct _ _ g = A
          have h51 : A.tmps[51]?.getD undef = .pointer (some ⟨q, 5, none⟩) := by rw [← hA, mkAct_in2 _ _ _ _ rfl rfl]; exact e51
          have c := (cq w' hJ.1).2.2.2.2.2.1
          refine step_val (v := .int .i64 s.list.bytes) (w' := w') ?_ ⟨rfl, Ext.refl _ _⟩
          simp [execOp, h51, c, Result.andThen, go_sem]
        case f45_1e =>
          intro f v g w' hJ hfi hb hd
          refine arm_u rfl ?_
          have eg : g 45 = .bool false := value_u (hd ⟨37, .guard⟩ (by simp) rfl) rfl rfl
          refine op_yes rfl rfl rfl rfl eg ?_
          generalize hA : mkAct _ _ g = A
          have h1 : A.tmps[1]?.getD undef = .int .i64 (kn : Int) := by rw [← hA]; exact mkAct_out2 _ _ _ _ _ rfl rfl
          refine step_val (v := .int .i64 (kn : Int)) (w' := w') ?_ ⟨rfl, Ext.refl _ _⟩
          simp [execOp, h1, Result.andThen, go_sem]
        case f46_1e =>
          intro f v g w' hJ hfi hb hd
          refine arm_u rfl ?_
          have eg : g 45 = .bool false := value_u (hd ⟨37, .guard⟩ (by simp) rfl) rfl rfl
          refine op_yes rfl rfl rfl rfl eg ?_
          have e53 : g 53 = .int .i64 (kn : Int) := value_u (hd ⟨45, .data⟩ (by simp) rfl) rfl rfl
          generalize hA : mkAct _ _ g = A
          have h53 : A.tmps[53]?.getD undef = .int .i64 (kn : Int) := by rw [← hA, mkAct_in2 _ _ _ _ rfl rfl]; exact e53
          refine step_val (v := .int .i64 ((kn : Int) * 400)) (w' := w') ?_ ⟨rfl, Ext.refl _ _⟩
          simp [execOp, h53, Result.andThen, go_sem]
          exact IntWalk.i64_in _ ⟨by omega, by omega⟩
        case f47_1e =>
          intro f v g w' hJ hfi hb hd
          refine arm_u rfl ?_
          have eg : g 45 = .bool false := value_u (hd ⟨37, .guard⟩ (by simp) rfl) rfl rfl
          refine op_yes rfl rfl rfl rfl eg ?_
          have e52 : g 52 = .int .i64 s.list.bytes := value_u (hd ⟨44, .data⟩ (by simp) rfl) rfl rfl
          have e54 : g 54 = .int .i64 ((kn : Int) * 400) := value_u (hd ⟨46, .data⟩ (by simp) rfl) rfl rfl
          generalize hA : mkAct _ _ g = A
          have h52 : A.tmps[52]?.getD undef = .int .i64 s.list.bytes := by rw [← hA, mkAct_in2 _ _ _ _ rfl rfl]; exact e52
          have h54 : A.tmps[54]?.getD undef = .int .i64 ((kn : Int) * 400) := by rw [← hA, mkAct_in2 _ _ _ _ rfl rfl]; exact e54
          refine step_val (v := .int .i64 (s.list.bytes - (kn : Int) * 400)) (w' := w') ?_ ⟨rfl, Ext.refl _ _⟩
          simp [execOp, h52, h54, Result.andThen, go_sem]
          exact IntWalk.i64_in _ ⟨by omega, by omega⟩
        case f48_1e =>
          intro f v g w' hJ hfi hb hd
          refine arm_u rfl ?_
          have eg : g 45 = .bool false := value_u (hd ⟨37, .guard⟩ (by simp) rfl) rfl rfl
          refine op_yes rfl rfl rfl rfl eg ?_
          have e55 : g 55 = .int .i64 (s.list.bytes - (kn : Int) * 400) := value_u (hd ⟨47, .data⟩ (by simp) rfl) rfl rfl
          generalize hA : mkAct _ _ g = A
          have h55 : A.tmps[55]?.getD undef = .int .i64 (s.list.bytes - (kn : Int) * 400) := by rw [← hA, mkAct_in2 _ _ _ _ rfl rfl]; exact e55
          refine step_val (v := .int .i64 (min 400 (s.list.bytes - (kn : Int) * 400))) (w' := w') ?_ ⟨rfl, Ext.refl _ _⟩
          simp [execOp, h55, Result.andThen, go_sem]
          all_goals (first | omega | (split <;> omega))
        case f49_1e =>
          intro f v g w' hJ hfi hb hd
          refine arm_u rfl ?_
          have eg : g 45 = .bool false := value_u (hd ⟨37, .guard⟩ (by simp) rfl) rfl rfl
          refine op_yes rfl rfl rfl rfl eg ?_
          have e47 : g 47 = .int .i64 (d.length : Int) := value_u (hd ⟨39, .data⟩ (by simp) rfl) rfl rfl
          have e56 : g 56 = .int .i64 (min 400 (s.list.bytes - (kn : Int) * 400)) := value_u (hd ⟨48, .data⟩ (by simp) rfl) rfl rfl
          generalize hA : mkAct _ _ g = A
          have h47 : A.tmps[47]?.getD undef = .int .i64 (d.length : Int) := by rw [← hA, mkAct_in2 _ _ _ _ rfl rfl]; exact e47
          have h56 : A.tmps[56]?.getD undef = .int .i64 (min 400 (s.list.bytes - (kn : Int) * 400)) := by rw [← hA, mkAct_in2 _ _ _ _ rfl rfl]; exact e56
          refine step_val (v := .bool true) (w' := w') ?_ ⟨rfl, Ext.refl _ _⟩
          simp [execOp, e6, h47, h56, Result.andThen, go_sem]
        case f50_1e =>
          intro f v g w' hJ hfi hb hd
          refine arm_u rfl ?_
          refine op_run rfl ?_
          have e45 : g 45 = .bool false := value_u (hd ⟨37, .data⟩ (by simp) rfl) rfl rfl
          have e57 : g 57 = .bool true := value_u (hd ⟨49, .data⟩ (by simp) rfl) rfl rfl
          generalize hA : mkAct _ _ g = A
          have h45 : A.tmps[45]?.getD undef = .bool false := by rw [← hA, mkAct_in2 _ _ _ _ rfl rfl]; exact e45
          have h57 : A.tmps[57]?.getD undef = .bool true := by rw [← hA, mkAct_in2 _ _ _ _ rfl rfl]; exact e57
          refine step_val (v := .bool true) (w' := w') ?_ ⟨rfl, Ext.refl _ _⟩
          simp [execOp, h45, h57, Result.andThen, go_sem]
      intro f v g wn hJ hk
      have e58 : g 58 = .bool true := value_u (hk 50 (by decide)) rfl rfl
      have hxe := hJ.1
      clear hk hJ cq cs
      unfold mkAct; simp only [List.zipIdx_cons, List.zipIdx_nil, List.map_cons, List.map_nil, Nat.zero_add, Nat.reduceAdd, List.contains_cons, List.contains_nil, Nat.reduceBEq, Bool.or_false, Bool.or_true, ↓reduceIte, Bool.false_eq_true]
      rw [e58]
      go_wp2
      go_ret
      rw [HM2.out]
      exact ⟨rfl, H.out.keep hxe, Kept.of hxe⟩
  · have HM2 := Hid.of (HMX.out.trans (if_neg (fun h => e5 h.1)))
    have e5b : u32v (sumOf d) ≠ u32v sm := fun h => e5 (u32v_inj.1 h)
    clear HMX
    refine wp_region_u [8, 9, 10, 11, 12, 13, 14, 15, 16, 17, 18, 19, 20, 21, 22, 23, 24, 25, 26, 27, 28, 29, 30, 31, 32, 33, 34, 35, 36, 37, 38, 39, 40, 41, 42, 43, 44, 45, 46, 47, 48, 49, 50, 51, 52, 53, 54, 55, 56, 57, 58] [25] (fun n => match n with | 0 => .pointer (some ⟨q, 0, none⟩) | 1 => .bool false | 2 => .bool false | 3 => .pointer (some ⟨q, 0, none⟩) | 4 => .pointer (some ⟨q, 0, none⟩) | 5 => .pointer (some ⟨q, 2, none⟩) | 6 => .int .i64 s.area | 7 => .bool false | 8 => .bool false | 9 => .bool false | 10 => .int .i64 (kn : Int) | 11 => .bool false | 12 => .bool false | 13 => .bool false | 14 => .int .i64 (kn : Int) | 15 => .pointer (some ⟨q, 0, none⟩) | 16 => .pointer (some ⟨q, 0, none⟩) | 17 => .pointer (some ⟨q, 3, none⟩) | 18 => .pointer (some ⟨q, 6, none⟩) | 19 => .slice (some ⟨g0, off, none⟩) s.list.sums.length cap | 20 => .int .i64 (s.list.sums.length : Nat) | 21 => .bool false | 22 => .bool false | 23 => .bool false | 24 => .string ⟨d.toArray⟩ | 26 => .int .u32 (u32v (sumOf d)) | 27 => .pointer (some ⟨q, 0, none⟩) | 28 => .pointer (some ⟨q, 0, none⟩) | 29 => .pointer (some ⟨q, 3, none⟩) | 30 => .pointer (some ⟨q, 6, none⟩) | 31 => .slice (some ⟨g0, off, none⟩) s.list.sums.length cap | 32 => .int .i64 (kn : Int) | 33 => .pointer (some ⟨g0, off + kn, none⟩) | 34 => .int .u32 (u32v sm) | 35 => .bool true | 36 => .bool true | 37 => .bool true | 38 => undef | 39 => undef | 40 => undef | 41 => undef | 42 => undef | 43 => undef | 44 => undef | 45 => undef | 46 => undef | 47 => undef | 48 => undef | 49 => undef | 50 => .bool true | _ => undef) (fun f v wx => Ext [] w wx ∧ (f 25 = true → ∃ z, v 25 = .slice (some ⟨z, 0, none⟩) 1 1 ∧ Blk wx z 9 [str d])) (by kernel_rfl) (by kernel_rfl) ?hst0_1d ?h00_1d ?hst_1d ?hend_1d
    case hst0_1d =>
      rintro f v w w' ⟨hx, j3⟩ hx2
      refine ⟨hx.then0 hx2, fun h => ?_⟩
      obtain ⟨z, ez, hz⟩ := j3 h
      exact ⟨z, ez, Blk.keep hz hx2 List.not_mem_nil⟩
    case h00_1d =>
      exact ⟨Ext.refl _ _, fun h => (by cases h)⟩
    case hst_1d =>
      refine ⟨?f0_1d, ?f1_1d, ?f2_1d, ?f3_1d, ?f4_1d, ?f5_1d, ?f6_1d, ?f7_1d, ?f8_1d, ?f9_1d, ?f10_1d, ?f11_1d, ?f12_1d, ?f13_1d, ?f14_1d, ?f15_1d, ?f16_1d, ?f17_1d, ?f18_1d, ?f19_1d, ?f20_1d, ?f21_1d, ?f22_1d, ?f23_1d, ?f24_1d, ?f25_1d, ?f26_1d, ?f27_1d, ?f28_1d, ?f29_1d, ?f30_1d, ?f31_1d, ?f32_1d, ?f33_1d, ?f34_1d, ?f35_1d, ?f36_1d, ?f37_1d, ?f38_1d, ?f39_1d, ?f40_1d, ?f41_1d, ?f42_1d, ?f43_1d, ?f44_1d, ?f45_1d, ?f46_1d, ?f47_1d, ?f48_1d, ?f49_1d, ?f50_1d, trivial⟩
      case f0_1d =>
        intro f v g w' hJ hfi hb hd
        refine arm_u rfl ?_
        refine op_run rfl ?_
        generalize hA : mkAct _ _ g = A
        have h0 : A.tmps[0]?.getD undef = .pointer (some ⟨q, 0, none⟩) := by rw [← hA]; exact mkAct_out2 _ _ _ _ _ rfl rfl
        refine step_val (v := .pointer (some ⟨q, 0, none⟩)) (w' := w') ?_ ⟨rfl, Ext.refl _ _⟩
        simp [execOp, h0, Result.andThen, go_sem]
      case f1_1d =>
        intro f v g w' hJ hfi hb hd
        refine arm_u rfl ?_
        refine op_run rfl ?_
        have e8 : g 8 = .pointer (some ⟨q, 0, none⟩) := value_u (hd ⟨0, .data⟩ (by simp) rfl) rfl rfl
        generalize hA : mkAct _ _ g = A
        have h8 : A.tmps[8]?.getD undef = .pointer (some ⟨q, 0, none⟩) := by rw [← hA, mkAct_in2 _ _ _ _ rfl rfl]; exact e8
        refine step_val (v := .bool false) (w' := w') ?_ ⟨rfl, Ext.refl _ _⟩
        simp [execOp, h8, Result.andThen, go_sem]
      case f2_1d =>
        intro f v g w' hJ hfi hb hd
        refine arm_u rfl ?_
        refine op_run rfl ?_
        have e9 : g 9 = .bool false := value_u (hd ⟨1, .data⟩ (by simp) rfl) rfl rfl
        generalize hA : mkAct _ _ g = A
        have h9 : A.tmps[9]?.getD undef = .bool false := by rw [← hA, mkAct_in2 _ _ _ _ rfl rfl]; exact e9
        refine step_val (v := .bool false) (w' := w') ?_ ⟨rfl, Ext.refl _ _⟩
        simp [execOp, h9, Result.andThen, go_sem]
      case f3_1d =>
        intro f v g w' hJ hfi hb hd
        refine arm_u rfl ?_
        have eg : g 10 = .bool false := value_u (hd ⟨2, .guard⟩ (by simp) rfl) rfl rfl
        refine op_yes rfl rfl rfl rfl eg ?_
        generalize hA : mkAct _ _ g = A
        have h0 : A.tmps[0]?.getD undef = .pointer (some ⟨q, 0, none⟩) := by rw [← hA]; exact mkAct_out2 _ _ _ _ _ rfl rfl
        refine step_val (v := .pointer (some ⟨q, 0, none⟩)) (w' := w') ?_ ⟨rfl, Ext.refl _ _⟩
        simp [execOp, h0, Result.andThen, go_sem]
      case f4_1d =>
        intro f v g w' hJ hfi hb hd
        refine arm_u rfl ?_
        have eg : g 10 = .bool false := value_u (hd ⟨2, .guard⟩ (by simp) rfl) rfl rfl
        refine op_yes rfl rfl rfl rfl eg ?_
        have e11 : g 11 = .pointer (some ⟨q, 0, none⟩) := value_u (hd ⟨3, .data⟩ (by simp) rfl) rfl rfl
        generalize hA : mkAct _ _ g = A
        have h11 : A.tmps[11]?.getD undef = .pointer (some ⟨q, 0, none⟩) := by rw [← hA, mkAct_in2 _ _ _ _ rfl rfl]; exact e11
        refine step_val (v := .pointer (some ⟨q, 0, none⟩)) (w' := w') ?_ ⟨rfl, Ext.refl _ _⟩
        simp [execOp, h11, Result.andThen, go_sem]
      case f5_1d =>
        intro f v g w' hJ hfi hb hd
        refine arm_u rfl ?_
        have eg : g 10 = .bool false := value_u (hd ⟨2, .guard⟩ (by simp) rfl) rfl rfl
        refine op_yes rfl rfl rfl rfl eg ?_
        have e12 : g 12 = .pointer (some ⟨q, 0, none⟩) := value_u (hd ⟨4, .data⟩ (by simp) rfl) rfl rfl
        generalize hA : mkAct _ _ g = A
        have h12 : A.tmps[12]?.getD undef = .pointer (some ⟨q, 0, none⟩) := by rw [← hA, mkAct_in2 _ _ _ _ rfl rfl]; exact e12
        refine step_val (v := .pointer (some ⟨q, 2, none⟩)) (w' := w') ?_ ⟨rfl, Ext.refl _ _⟩
        simp [execOp, h12, Result.andThen, go_sem]
      case f6_1d =>
        intro f v g w' hJ hfi hb hd
        refine arm_u rfl ?_
        have eg : g 10 = .bool false := value_u (hd ⟨2, .guard⟩ (by simp) rfl) rfl rfl
        refine op_yes rfl rfl rfl rfl eg ?_
        have e13 : g 13 = .pointer (some ⟨q, 2, none⟩) := value_u (hd ⟨5, .data⟩ (by simp) rfl) rfl rfl
        generalize hA : mkAct _ _ g = A
        have h13 : A.tmps[13]?.getD undef = .pointer (some ⟨q, 2, none⟩) := by rw [← hA, mkAct_in2 _ _ _ _ rfl rfl]; exact e13
        have c := (cq w' hJ.1).2.2.1
        refine step_val (v := .int .i64 s.area) (w' := w') ?_ ⟨rfl, Ext.refl _ _⟩
        simp [execOp, h13, c, Result.andThen, go_sem]
      case f7_1d =>
        intro f v g w' hJ hfi hb hd
        refine arm_u rfl ?_
        have eg : g 10 = .bool false := value_u (hd ⟨2, .guard⟩ (by simp) rfl) rfl rfl
        refine op_yes rfl rfl rfl rfl eg ?_
        have e14 : g 14 = .int .i64 s.area := value_u (hd ⟨6, .data⟩ (by simp) rfl) rfl rfl
        generalize hA : mkAct _ _ g = A
        have h14 : A.tmps[14]?.getD undef = .int .i64 s.area := by rw [← hA, mkAct_in2 _ _ _ _ rfl rfl]; exact e14
        refine step_val (v := .bool false) (w' := w') ?_ ⟨rfl, Ext.refl _ _⟩
        simp [execOp, e1, h14, Result.andThen, go_sem]
      case f8_1d =>
        intro f v g w' hJ hfi hb hd
        refine arm_u rfl ?_
        refine op_run rfl ?_
        have e10 : g 10 = .bool false := value_u (hd ⟨2, .data⟩ (by simp) rfl) rfl rfl
        have e15 : g 15 = .bool false := value_u (hd ⟨7, .data⟩ (by simp) rfl) rfl rfl
        generalize hA : mkAct _ _ g = A
        have h10 : A.tmps[10]?.getD undef = .bool false := by rw [← hA, mkAct_in2 _ _ _ _ rfl rfl]; exact e10
        have h15 : A.tmps[15]?.getD undef = .bool false := by rw [← hA, mkAct_in2 _ _ _ _ rfl rfl]; exact e15
        refine step_val (v := .bool false) (w' := w') ?_ ⟨rfl, Ext.refl _ _⟩
        simp [execOp, h10, h15, Result.andThen, go_sem]
      case f9_1d =>
        intro f v g w' hJ hfi hb hd
        refine arm_u rfl ?_
        refine op_run rfl ?_
        have e16 : g 16 = .bool false := value_u (hd ⟨8, .data⟩ (by simp) rfl) rfl rfl
        generalize hA : mkAct _ _ g = A
        have h16 : A.tmps[16]?.getD undef = .bool false := by rw [← hA, mkAct_in2 _ _ _ _ rfl rfl]; exact e16
        refine step_val (v := .bool false) (w' := w') ?_ ⟨rfl, Ext.refl _ _⟩
        simp [execOp, h16, Result.andThen, go_sem]
      case f10_1d =>
        intro f v g w' hJ hfi hb hd
        refine arm_u rfl ?_
        have eg : g 17 = .bool false := value_u (hd ⟨9, .guard⟩ (by simp) rfl) rfl rfl
        refine op_yes rfl rfl rfl rfl eg ?_
        generalize hA : mkAct _ _ g = A
        have h1 : A.tmps[1]?.getD undef = .int .i64 (kn : Int) := by rw [← hA]; exact mkAct_out2 _ _ _ _ _ rfl rfl
        refine step_val (v := .int .i64 (kn : Int)) (w' := w') ?_ ⟨rfl, Ext.refl _ _⟩
        simp [execOp, h1, Result.andThen, go_sem]
      case f11_1d =>
        intro f v g w' hJ hfi hb hd
        refine arm_u rfl ?_
        have eg : g 17 = .bool false := value_u (hd ⟨9, .guard⟩ (by simp) rfl) rfl rfl
        refine op_yes rfl rfl rfl rfl eg ?_
        have e18 : g 18 = .int .i64 (kn : Int) := value_u (hd ⟨10, .data⟩ (by simp) rfl) rfl rfl
        generalize hA : mkAct _ _ g = A
        have h18 : A.tmps[18]?.getD undef = .int .i64 (kn : Int) := by rw [← hA, mkAct_in2 _ _ _ _ rfl rfl]; exact e18
        refine step_val (v := .bool false) (w' := w') ?_ ⟨rfl, Ext.refl _ _⟩
        simp [execOp, e2, h18, Result.andThen, go_sem]
      case f12_1d =>
        intro f v g w' hJ hfi hb hd
        refine arm_u rfl ?_
        refine op_run rfl ?_
        have e17 : g 17 = .bool false := value_u (hd ⟨9, .data⟩ (by simp) rfl) rfl rfl
        have e19 : g 19 = .bool false := value_u (hd ⟨11, .data⟩ (by simp) rfl) rfl rfl
        generalize hA : mkAct _ _ g = A
        have h17 : A.tmps[17]?.getD undef = .bool false := by rw [← hA, mkAct_in2 _ _ _ _ rfl rfl]; exact e17
        have h19 : A.tmps[19]?.getD undef = .bool false := by rw [← hA, mkAct_in2 _ _ _ _ rfl rfl]; exact e19
        refine step_val (v := .bool false) (w' := w') ?_ ⟨rfl, Ext.refl _ _⟩
        simp [execOp, h17, h19, Result.andThen, go_sem]
      case f13_1d =>
        intro f v g w' hJ hfi hb hd
        refine arm_u rfl ?_
        refine op_run rfl ?_
        have e20 : g 20 = .bool false := value_u (hd ⟨12, .data⟩ (by simp) rfl) rfl rfl
        generalize hA : mkAct _ _ g = A
        have h20 : A.tmps[20]?.getD undef = .bool false := by rw [← hA, mkAct_in2 _ _ _ _ rfl rfl]; exact e20
        refine step_val (v := .bool false) (w' := w') ?_ ⟨rfl, Ext.refl _ _⟩
        simp [execOp, h20, Result.andThen, go_sem]
      case f14_1d =>
        intro f v g w' hJ hfi hb hd
        refine arm_u rfl ?_
        have eg : g 21 = .bool false := value_u (hd ⟨13, .guard⟩ (by simp) rfl) rfl rfl
        refine op_yes rfl rfl rfl rfl eg ?_
        generalize hA : mkAct _ _ g = A
        have h1 : A.tmps[1]?.getD undef = .int .i64 (kn : Int) := by rw [← hA]; exact mkAct_out2 _ _ _ _ _ rfl rfl
        refine step_val (v := .int .i64 (kn : Int)) (w' := w') ?_ ⟨rfl, Ext.refl _ _⟩
        simp [execOp, h1, Result.andThen, go_sem]
      case f15_1d =>
        intro f v g w' hJ hfi hb hd
        refine arm_u rfl ?_
        have eg : g 21 = .bool false := value_u (hd ⟨13, .guard⟩ (by simp) rfl) rfl rfl
        refine op_yes rfl rfl rfl rfl eg ?_
        generalize hA : mkAct _ _ g = A
        have h0 : A.tmps[0]?.getD undef = .pointer (some ⟨q, 0, none⟩) := by rw [← hA]; exact mkAct_out2 _ _ _ _ _ rfl rfl
        refine step_val (v := .pointer (some ⟨q, 0, none⟩)) (w' := w') ?_ ⟨rfl, Ext.refl _ _⟩
        simp [execOp, h0, Result.andThen, go_sem]
      case f16_1d =>
        intro f v g w' hJ hfi hb hd
        refine arm_u rfl ?_
        have eg : g 21 = .bool false := value_u (hd ⟨13, .guard⟩ (by simp) rfl) rfl rfl
        refine op_yes rfl rfl rfl rfl eg ?_
        have e23 : g 23 = .pointer (some ⟨q, 0, none⟩) := value_u (hd ⟨15, .data⟩ (by simp) rfl) rfl rfl
        generalize hA : mkAct _ _ g = A
        have h23 : A.tmps[23]?.getD undef = .pointer (some ⟨q, 0, none⟩) := by rw [← hA, mkAct_in2 _ _ _ _ rfl rfl]; exact e23
        refine step_val (v := .pointer (some ⟨q, 0, none⟩)) (w' := w') ?_ ⟨rfl, Ext.refl _ _⟩
        simp [execOp, h23, Result.andThen, go_sem]
      case f17_1d =>
        intro f v g w' hJ hfi hb hd
        refine arm_u rfl ?_
        have eg : g 21 = .bool false := value_u (hd ⟨13, .guard⟩ (by simp) rfl) rfl rfl
        refine op_yes rfl rfl rfl rfl eg ?_
        have e24 : g 24 = .pointer (some ⟨q, 0, none⟩) := value_u (hd ⟨16, .data⟩ (by simp) rfl) rfl rfl
        generalize hA : mkAct _ _ g = A
        have h24 : A.tmps[24]?.getD undef = .pointer (some ⟨q, 0, none⟩) := by rw [← hA, mkAct_in2 _ _ _ _ rfl rfl]; exact e24
        refine step_val (v := .pointer (some ⟨q, 3, none⟩)) (w' := w') ?_ ⟨rfl, Ext.refl _ _⟩
        simp [execOp, h24, Result.andThen, go_sem]
      case f18_1d =>
        intro f v g w' hJ hfi hb hd
        refine arm_u rfl ?_
        have eg : g 21 = .bool false := value_u (hd ⟨13, .guard⟩ (by simp) rfl) rfl rfl
        refine op_yes rfl rfl rfl rfl eg ?_
        have e25 : g 25 = .pointer (some ⟨q, 3, none⟩) := value_u (hd ⟨17, .data⟩ (by simp) rfl) rfl rfl
        generalize hA : mkAct _ _ g = A
        have h25 : A.tmps[25]?.getD undef = .pointer (some ⟨q, 3, none⟩) := by rw [← hA, mkAct_in2 _ _ _ _ rfl rfl]; exact e25
        refine step_val (v := .pointer (some ⟨q, 6, none⟩)) (w' := w') ?_ ⟨rfl, Ext.refl _ _⟩
        simp [execOp, h25, Result.andThen, go_sem]
      case f19_1d =>
        intro f v g w' hJ hfi hb hd
        refine arm_u rfl ?_
        have eg : g 21 = .bool false := value_u (hd ⟨13, .guard⟩ (by simp) rfl) rfl rfl
        refine op_yes rfl rfl rfl rfl eg ?_
        have e26 : g 26 = .pointer (some ⟨q, 6, none⟩) := value_u (hd ⟨18, .data⟩ (by simp) rfl) rfl rfl
        generalize hA : mkAct _ _ g = A
        have h26 : A.tmps[26]?.getD undef = .pointer (some ⟨q, 6, none⟩) := by rw [← hA, mkAct_in2 _ _ _ _ rfl rfl]; exact e26
        have c := (cq w' hJ.1).2.2.2.2.2.2
        refine step_val (v := .slice (some ⟨g0, off, none⟩) s.list.sums.length cap) (w' := w') ?_ ⟨rfl, Ext.refl _ _⟩
        simp [execOp, h26, c, Result.andThen, go_sem]
      case f20_1d =>
        intro f v g w' hJ hfi hb hd
        refine arm_u rfl ?_
        have eg : g 21 = .bool false := value_u (hd ⟨13, .guard⟩ (by simp) rfl) rfl rfl
        refine op_yes rfl rfl rfl rfl eg ?_
        have e27 : g 27 = .slice (some ⟨g0, off, none⟩) s.list.sums.length cap := value_u (hd ⟨19, .data⟩ (by simp) rfl) rfl rfl
        generalize hA : mkAct _ _ g = A
        have h27 : A.tmps[27]?.getD undef = .slice (some ⟨g0, off, none⟩) s.list.sums.length cap := by rw [← hA, mkAct_in2 _ _ _ _ rfl rfl]; exact e27
        refine step_val (v := .int .i64 (s.list.sums.length : Nat)) (w' := w') ?_ ⟨rfl, Ext.refl _ _⟩
        simp [execOp, h27, Result.andThen, go_sem]
      case f21_1d =>
        intro f v g w' hJ hfi hb hd
        refine arm_u rfl ?_
        have eg : g 21 = .bool false := value_u (hd ⟨13, .guard⟩ (by simp) rfl) rfl rfl
        refine op_yes rfl rfl rfl rfl eg ?_
        have e22 : g 22 = .int .i64 (kn : Int) := value_u (hd ⟨14, .data⟩ (by simp) rfl) rfl rfl
        have e28 : g 28 = .int .i64 (s.list.sums.length : Nat) := value_u (hd ⟨20, .data⟩ (by simp) rfl) rfl rfl
        generalize hA : mkAct _ _ g = A
        have h22 : A.tmps[22]?.getD undef = .int .i64 (kn : Int) := by rw [← hA, mkAct_in2 _ _ _ _ rfl rfl]; exact e22
        have h28 : A.tmps[28]?.getD undef = .int .i64 (s.list.sums.length : Nat) := by rw [← hA, mkAct_in2 _ _ _ _ rfl rfl]; exact e28
        refine step_val (v := .bool false) (w' := w') ?_ ⟨rfl, Ext.refl _ _⟩
        simp [execOp, e3, h22, h28, Result.andThen, go_sem]
        all_goals (first | exact hkl | omega)
      case f22_1d =>
        intro f v g w' hJ hfi hb hd
        refine arm_u rfl ?_
        refine op_run rfl ?_
        have e21 : g 21 = .bool false := value_u (hd ⟨13, .data⟩ (by simp) rfl) rfl rfl
        have e29 : g 29 = .bool false := value_u (hd ⟨21, .data⟩ (by simp) rfl) rfl rfl
        generalize hA : mkAct _ _ g = A
        have h21 : A.tmps[21]?.getD undef = .bool false := by rw [← hA, mkAct_in2 _ _ _ _ rfl rfl]; exact e21
        have h29 : A.tmps[29]?.getD undef = .bool false := by rw [← hA, mkAct_in2 _ _ _ _ rfl rfl]; exact e29
        refine step_val (v := .bool false) (w' := w') ?_ ⟨rfl, Ext.refl _ _⟩
        simp [execOp, h21, h29, Result.andThen, go_sem]
      case f23_1d =>
        intro f v g w' hJ hfi hb hd
        refine arm_u rfl ?_
        refine op_run rfl ?_
        have e30 : g 30 = .bool false := value_u (hd ⟨22, .data⟩ (by simp) rfl) rfl rfl
        generalize hA : mkAct _ _ g = A
        have h30 : A.tmps[30]?.getD undef = .bool false := by rw [← hA, mkAct_in2 _ _ _ _ rfl rfl]; exact e30
        refine step_val (v := .bool false) (w' := w') ?_ ⟨rfl, Ext.refl _ _⟩
        simp [execOp, h30, Result.andThen, go_sem]
      case f24_1d =>
        intro f v g w' hJ hfi hb hd
        refine arm_u rfl ?_
        have eg : g 31 = .bool false := value_u (hd ⟨23, .guard⟩ (by simp) rfl) rfl rfl
        refine op_yes rfl rfl rfl rfl eg ?_
        generalize hA : mkAct _ _ g = A
        have h2 : A.tmps[2]?.getD undef = .string ⟨d.toArray⟩ := by rw [← hA]; exact mkAct_out2 _ _ _ _ _ rfl rfl
        refine step_val (v := .string ⟨d.toArray⟩) (w' := w') ?_ ⟨rfl, Ext.refl _ _⟩
        simp [execOp, h2, Result.andThen, go_sem]
      case f25_1d =>
        intro f v g w' hJ hfi hb hd
        refine arms_u rfl ?_
        have eg : g 31 = .bool false := value_u (hd ⟨23, .guard⟩ (by simp) rfl) rfl rfl
        refine op_yes rfl rfl rfl rfl eg ?_
        have e32 : g 32 = .string ⟨d.toArray⟩ := value_u (hd ⟨24, .data⟩ (by simp) rfl) rfl rfl
        generalize hA : mkAct _ _ g = A
        have h32 : A.tmps[32]?.getD undef = .string ⟨d.toArray⟩ := by rw [← hA, mkAct_in2 _ _ _ _ rfl rfl]; exact e32
        have hxa : Ext [] w' (w'.alloc (.cells #[.string ⟨d.toArray⟩] 9)) := (Ext.refl _ _).alloc _
        refine step_val (v := .slice (some ⟨w'.heap.size, 0, none⟩) 1 1) (w' := w'.alloc (.cells #[.string ⟨d.toArray⟩] 9)) ?_ ⟨_, rfl, hJ.1.then0 hxa, fun _ => ⟨w'.heap.size, setU_same _ _ _, Blk.new w' 9 #[str d]⟩⟩
        simp [execOp, h32, Result.andThen, go_sem]
      case f26_1d =>
        intro f v g w' hJ hfi hb hd
        refine arm_u rfl ?_
        have eg : g 31 = .bool false := value_u (hd ⟨23, .guard⟩ (by simp) rfl) rfl rfl
        refine op_yes rfl rfl rfl rfl eg ?_
        obtain ⟨hf33, e33⟩ := special_u (hd ⟨25, .data⟩ (by simp) rfl) rfl rfl
        replace e33 : g 33 = v 25 := e33
        obtain ⟨z, ez, hz⟩ := hJ.2 hf33
        rw [ez] at e33
        generalize hA : mkAct _ _ g = A
        have h33 : A.tmps[33]?.getD undef = .slice (some ⟨z, 0, none⟩) 1 1 := by rw [← hA, mkAct_in2 _ _ _ _ rfl rfl]; exact e33
        refine float_u (fun K hK => ?_)
        go_simp
        refine (ofStr_any d w' z hz (by omega)).mono ?_
        rintro e w2 ⟨rfl, hx2⟩
        exact hK w2 hx2
      case f27_1d =>
        intro f v g w' hJ hfi hb hd
        refine arm_u rfl ?_
        have eg : g 31 = .bool false := value_u (hd ⟨23, .guard⟩ (by simp) rfl) rfl rfl
        refine op_yes rfl rfl rfl rfl eg ?_
        generalize hA : mkAct _ _ g = A
        have h0 : A.tmps[0]?.getD undef = .pointer (some ⟨q, 0, none⟩) := by rw [← hA]; exact mkAct_out2 _ _ _ _ _ rfl rfl
        refine step_val (v := .pointer (some ⟨q, 0, none⟩)) (w' := w') ?_ ⟨rfl, Ext.refl _ _⟩
        simp [execOp, h0, Result.andThen, go_sem]
      case f28_1d =>
        intro f v g w' hJ hfi hb hd
        refine arm_u rfl ?_
        have eg : g 31 = .bool false := value_u (hd ⟨23, .guard⟩ (by simp) rfl) rfl rfl
        refine op_yes rfl rfl rfl rfl eg ?_
        have e35 : g 35 = .pointer (some ⟨q, 0, none⟩) := value_u (hd ⟨27, .data⟩ (by simp) rfl) rfl rfl
        generalize hA : mkAct _ _ g = A
        have h35 : A.tmps[35]?.getD undef = .pointer (some ⟨q, 0, none⟩) := by rw [← hA, mkAct_in2 _ _ _ _ rfl rfl]; exact e35
        refine step_val (v := .pointer (some ⟨q, 0, none⟩)) (w' := w') ?_ ⟨rfl, Ext.refl _ _⟩
        simp [execOp, h35, Result.andThen, go_sem]
      case f29_1d =>
        intro f v g w' hJ hfi hb hd
        refine arm_u rfl ?_
        have eg : g 31 = .bool false := value_u (hd ⟨23, .guard⟩ (by simp) rfl) rfl rfl
        refine op_yes rfl rfl rfl rfl eg ?_
        have e36 : g 36 = .pointer (some ⟨q, 0, none⟩) := value_u (hd ⟨28, .data⟩ (by simp) rfl) rfl rfl
        generalize hA : mkAct _ _ g = A
        have h36 : A.tmps[36]?.getD undef = .pointer (some ⟨q, 0, none⟩) := by rw [← hA, mkAct_in2 _ _ _ _ rfl rfl]; exact e36
        refine step_val (v := .pointer (some ⟨q, 3, none⟩)) (w' := w') ?_ ⟨rfl, Ext.refl _ _⟩
        simp [execOp, h36, Result.andThen, go_sem]
      case f30_1d =>
        intro f v g w' hJ hfi hb hd
        refine arm_u rfl ?_
        have eg : g 31 = .bool false := value_u (hd ⟨23, .guard⟩ (by simp) rfl) rfl rfl
        refine op_yes rfl rfl rfl rfl eg ?_
        have e37 : g 37 = .pointer (some ⟨q, 3, none⟩) := value_u (hd ⟨29, .data⟩ (by simp) rfl) rfl rfl
        generalize hA : mkAct _ _ g = A
        have h37 : A.tmps[37]?.getD undef = .pointer (some ⟨q, 3, none⟩) := by rw [← hA, mkAct_in2 _ _ _ _ rfl rfl]; exact e37
        refine step_val (v := .pointer (some ⟨q, 6, none⟩)) (w' := w') ?_ ⟨rfl, Ext.refl _ _⟩
        simp [execOp, h37, Result.andThen, go_sem]
      case f31_1d =>
        intro f v g w' hJ hfi hb hd
        refine arm_u rfl ?_
        have eg : g 31 = .bool false := value_u (hd ⟨23, .guard⟩ (by simp) rfl) rfl rfl
        refine op_yes rfl rfl rfl rfl eg ?_
        have e38 : g 38 = .pointer (some ⟨q, 6, none⟩) := value_u (hd ⟨30, .data⟩ (by simp) rfl) rfl rfl
        generalize hA : mkAct _ _ g = A
        have h38 : A.tmps[38]?.getD undef = .pointer (some ⟨q, 6, none⟩) := by rw [← hA, mkAct_in2 _ _ _ _ rfl rfl]; exact e38
        have c := (cq w' hJ.1).2.2.2.2.2.2
        refine step_val (v := .slice (some ⟨g0, off, none⟩) s.list.sums.length cap) (w' := w') ?_ ⟨rfl, Ext.refl _ _⟩
        simp [execOp, h38, c, Result.andThen, go_sem]
      case f32_1d =>
        intro f v g w' hJ hfi hb hd
        refine arm_u rfl ?_
        have eg : g 31 = .bool false := value_u (hd ⟨23, .guard⟩ (by simp) rfl) rfl rfl
        refine op_yes rfl rfl rfl rfl eg ?_
        generalize hA : mkAct _ _ g = A
        have h1 : A.tmps[1]?.getD undef = .int .i64 (kn : Int) := by rw [← hA]; exact mkAct_out2 _ _ _ _ _ rfl rfl
        refine step_val (v := .int .i64 (kn : Int)) (w' := w') ?_ ⟨rfl, Ext.refl _ _⟩
        simp [execOp, h1, Result.andThen, go_sem]
      case f33_1d =>
        intro f v g w' hJ hfi hb hd
        refine arm_u rfl ?_
        have eg : g 31 = .bool false := value_u (hd ⟨23, .guard⟩ (by simp) rfl) rfl rfl
        refine op_yes rfl rfl rfl rfl eg ?_
        have e39 : g 39 = .slice (some ⟨g0, off, none⟩) s.list.sums.length cap := value_u (hd ⟨31, .data⟩ (by simp) rfl) rfl rfl
        have e40 : g 40 = .int .i64 (kn : Int) := value_u (hd ⟨32, .data⟩ (by simp) rfl) rfl rfl
        generalize hA : mkAct _ _ g = A
        have h39 : A.tmps[39]?.getD undef = .slice (some ⟨g0, off, none⟩) s.list.sums.length cap := by rw [← hA, mkAct_in2 _ _ _ _ rfl rfl]; exact e39
        have h40 : A.tmps[40]?.getD undef = .int .i64 (kn : Int) := by rw [← hA, mkAct_in2 _ _ _ _ rfl rfl]; exact e40
        refine step_val (v := .pointer (some ⟨g0, off + kn, none⟩)) (w' := w') ?_ ⟨rfl, Ext.refl _ _⟩
        simp [execOp, hkl, h39, h40, Result.andThen, go_sem]
        all_goals (first | exact hkl | omega)
      case f34_1d =>
        intro f v g w' hJ hfi hb hd
        refine arm_u rfl ?_
        have eg : g 31 = .bool false := value_u (hd ⟨23, .guard⟩ (by simp) rfl) rfl rfl
        refine op_yes rfl rfl rfl rfl eg ?_
        have e41 : g 41 = .pointer (some ⟨g0, off + kn, none⟩) := value_u (hd ⟨33, .data⟩ (by simp) rfl) rfl rfl
        generalize hA : mkAct _ _ g = A
        have h41 : A.tmps[41]?.getD undef = .pointer (some ⟨g0, off + kn, none⟩) := by rw [← hA, mkAct_in2 _ _ _ _ rfl rfl]; exact e41
        have c := cs w' hJ.1
        refine step_val (v := .int .u32 (u32v sm)) (w' := w') ?_ ⟨rfl, Ext.refl _ _⟩
        simp [execOp, h41, c, Result.andThen, go_sem]
      case f35_1d =>
        intro f v g w' hJ hfi hb hd
        refine arm_u rfl ?_
        have eg : g 31 = .bool false := value_u (hd ⟨23, .guard⟩ (by simp) rfl) rfl rfl
        refine op_yes rfl rfl rfl rfl eg ?_
        have e34 : g 34 = .int .u32 (u32v (sumOf d)) := value_u (hd ⟨26, .data⟩ (by simp) rfl) rfl rfl
        have e42 : g 42 = .int .u32 (u32v sm) := value_u (hd ⟨34, .data⟩ (by simp) rfl) rfl rfl
        generalize hA : mkAct _ _ g = A
        have h34 : A.tmps[34]?.getD undef = .int .u32 (u32v (sumOf d)) := by rw [← hA, mkAct_in2 _ _ _ _ rfl rfl]; exact e34
        have h42 : A.tmps[42]?.getD undef = .int .u32 (u32v sm) := by rw [← hA, mkAct_in2 _ _ _ _ rfl rfl]; exact e42
        refine step_val (v := .bool true) (w' := w') ?_ ⟨rfl, Ext.refl _ _⟩
        simp [execOp, e5b, h34, h42, Result.andThen, go_sem]
      case f36_1d =>
        intro f v g w' hJ hfi hb hd
        refine arm_u rfl ?_
        refine op_run rfl ?_
        have e31 : g 31 = .bool false := value_u (hd ⟨23, .data⟩ (by simp) rfl) rfl rfl
        have e43 : g 43 = .bool true := value_u (hd ⟨35, .data⟩ (by simp) rfl) rfl rfl
        generalize hA : mkAct _ _ g = A
        have h31 : A.tmps[31]?.getD undef = .bool false := by rw [← hA, mkAct_in2 _ _ _ _ rfl rfl]; exact e31
        have h43 : A.tmps[43]?.getD undef = .bool true := by rw [← hA, mkAct_in2 _ _ _ _ rfl rfl]; exact e43
        refine step_val (v := .bool true) (w' := w') ?_ ⟨rfl, Ext.refl _ _⟩
        simp [execOp, h31, h43, Result.andThen, go_sem]
      case f37_1d =>
        intro f v g w' hJ hfi hb hd
        refine arm_u rfl ?_
        refine op_run rfl ?_
        have e44 : g 44 = .bool true := value_u (hd ⟨36, .data⟩ (by simp) rfl) rfl rfl
        generalize hA : mkAct _ _ g = A
        have h44 : A.tmps[44]?.getD undef = .bool true := by rw [← hA, mkAct_in2 _ _ _ _ rfl rfl]; exact e44
        refine step_val (v := .bool true) (w' := w') ?_ ⟨rfl, Ext.refl _ _⟩
        simp [execOp, h44, Result.andThen, go_sem]
      case f38_1d =>
        intro f v g w' hJ hfi hb hd
        refine arm_u rfl ?_
        have eg : g 45 = .bool true := value_u (hd ⟨37, .guard⟩ (by simp) rfl) rfl rfl
        exact op_no rfl rfl rfl rfl true eg (by decide) ⟨rfl, Ext.refl _ _⟩
      case f39_1d =>
        intro f v g w' hJ hfi hb hd
        refine arm_u rfl ?_
        have eg : g 45 = .bool true := value_u (hd ⟨37, .guard⟩ (by simp) rfl) rfl rfl
        exact op_no rfl rfl rfl rfl true eg (by decide) ⟨rfl, Ext.refl _ _⟩
      case f40_1d =>
        intro f v g w' hJ hfi hb hd
        refine arm_u rfl ?_
        have eg : g 45 = .bool true := value_u (hd ⟨37, .guard⟩ (by simp) rfl) rfl rfl
        exact op_no rfl rfl rfl rfl true eg (by decide) ⟨rfl, Ext.refl _ _⟩
      case f41_1d =>
        intro f v g w' hJ hfi hb hd
        refine arm_u rfl ?_
        have eg : g 45 = .bool true := value_u (hd ⟨37, .guard⟩ (by simp) rfl) rfl rfl
        exact op_no rfl rfl rfl rfl true eg (by decide) ⟨rfl, Ext.refl _ _⟩
      case f42_1d =>
        intro f v g w' hJ hfi hb hd
        refine arm_u rfl ?_
        have eg : g 45 = .bool true := value_u (hd ⟨37, .guard⟩ (by simp) rfl) rfl rfl
        exact op_no rfl rfl rfl rfl true eg (by decide) ⟨rfl, Ext.refl _ _⟩
      case f43_1d =>
        intro f v g w' hJ hfi hb hd
        refine arm_u rfl ?_
        have eg : g 45 = .bool true := value_u (hd ⟨37, .guard⟩ (by simp) rfl) rfl rfl
        exact op_no rfl rfl rfl rfl true eg (by decide) ⟨rfl, Ext.refl _ _⟩
      case f44_1d =>
        intro f v g w' hJ hfi hb hd
        refine arm_u rfl ?_
        have eg : g 45 = .bool true := value_u (hd ⟨37, .guard⟩ (by simp) rfl) rfl rfl
        exact op_no rfl rfl rfl rfl true eg (by decide) ⟨rfl, Ext.refl _ _⟩
      case f45_1d =>
        intro f v g w' hJ hfi hb hd
        refine arm_u rfl ?_
        have eg : g 45 = .bool true := value_u (hd ⟨37, .guard⟩ (by simp) rfl) rfl rfl
        exact op_no rfl rfl rfl rfl true eg (by decide) ⟨rfl, Ext.refl _ _⟩
      case f46_1d =>
        intro f v g w' hJ hfi hb hd
        refine arm_u rfl ?_
        have eg : g 45 = .bool true := value_u (hd ⟨37, .guard⟩ (by simp) rfl) rfl rfl
        exact op_no rfl rfl rfl rfl true eg (by decide) ⟨rfl, Ext.refl _ _⟩
      case f47_1d =>
        intro f v g w' hJ hfi hb hd
        refine arm_u rfl ?_
        have eg : g 45 = .bool true := value_u (hd ⟨37, .guard⟩ (by simp) rfl) rfl rfl
        exact op_no rfl rfl rfl rfl true eg (by decide) ⟨rfl, Ext.refl _ _⟩
      case f48_1d =>
        intro f v g w' hJ hfi hb hd
        refine arm_u rfl ?_
        have eg : g 45 = .bool true := value_u (hd ⟨37, .guard⟩ (by simp) rfl) rfl rfl
        exact op_no rfl rfl rfl rfl true eg (by decide) ⟨rfl, Ext.refl _ _⟩
      case f49_1d =>
        intro f v g w' hJ hfi hb hd
        refine arm_u rfl ?_
        have eg : g 45 = .bool true := value_u (hd ⟨37, .guard⟩ (by simp) rfl) rfl rfl
        exact op_no rfl rfl rfl rfl true eg (by decide) ⟨rfl, Ext.refl _ _⟩
      case f50_1d =>
        intro f v g w' hJ hfi hb hd
        refine arm_u rfl ?_
        refine op_run rfl ?_
        have e45 : g 45 = .bool true := value_u (hd ⟨37, .data⟩ (by simp) rfl) rfl rfl
        have e57 : g 57 = undef := value_u (hd ⟨49, .data⟩ (by simp) rfl) rfl rfl
        generalize hA : mkAct _ _ g = A
        have h45 : A.tmps[45]?.getD undef = .bool true := by rw [← hA, mkAct_in2 _ _ _ _ rfl rfl]; exact e45
        have h57 : A.tmps[57]?.getD undef = undef := by rw [← hA, mkAct_in2 _ _ _ _ rfl rfl]; exact e57
        refine step_val (v := .bool true) (w' := w') ?_ ⟨rfl, Ext.refl _ _⟩
        simp [execOp, h45, h57, Result.andThen, go_sem]
    intro f v g wn hJ hk
    have e58 : g 58 = .bool true := value_u (hk 50 (by decide)) rfl rfl
    have hxe := hJ.1
    clear hk hJ cq cs
    unfold mkAct; simp only [List.zipIdx_cons, List.zipIdx_nil, List.map_cons, List.map_nil, Nat.zero_add, Nat.reduceAdd, List.contains_cons, List.contains_nil, Nat.reduceBEq, Bool.or_false, Bool.or_true, ↓reduceIte, Bool.false_eq_true]
    rw [e58]
    go_wp2
    go_ret
    rw [HM2.out]
    exact ⟨rfl, H.out.keep hxe, Kept.of hxe⟩
theorem StM.mend7 (h : StM w0 w q b sv D s n0 O) (k : Int) (d : List UInt8) (hd : d.length ≤ 1000000) (hlen : D.since.length ≤ 900000) :
    Calls Try.prog 19 #[.pointer (some ⟨q, 0, none⟩), .int .i64 k, str d] w fun e w' => e = .returned (.int .i64 (mendX s k d D).1) ∧ StM w0 w' q b sv (mendX s k d D).2 s n0 O ∧ Kept O w w' := by
  by_cases hk : s.area < 0 ∨ k < 0 ∨ (s.list.sums.length : Int) ≤ k
  · have e : mendX s k d D = (1, D) := if_neg (fun hh => hh.1 hk)
    rw [e]
    refine (mend_out h k d hk).mono ?_
    rintro e w' ⟨rfl, hx⟩
    exact ⟨rfl, h.keep hx, Kept.of hx⟩
  · exact mend_in h k d hd hk hlen
end
end Go.Proofs.Ytlnfigbcdmfmdaa
