/- The law's holds: does a store have just a snapshot? (Printed by wip/gen_holds7.py.) -/
import Derived.Test.YtlnfigbcdmfmdaaChkn
namespace Go.Proofs.Ytlnfigbcdmfmdaa
open Go.RowKit
set_option linter.unusedVariables false
set_option linter.unusedSimpArgs false

section
variable {w0 w : World} {q b : Nat} {sv : Value} {D : Dv} {s : Sto} {n : Int} {O : List Nat} {V : Int → Sl} {base : Int} {x : Shot}
theorem chV_out {k : Int} (h : s.chE V k = 7) : s.chV V k = [] := by unfold Sto.chV; rw [if_neg (by rw [h]; decide)]
set_option maxHeartbeats 6400000 in
theorem holds_none (h : StM w0 w q b sv D s n O) (hf : Fine D n V 0) (hg : Good base V s x) (hi : x.i = 0) :
    Calls Try.prog 28 #[.pointer (some ⟨q, 0, none⟩), .agg #[.int .i64 x.i, .int .i64 x.t, str x.d]] w fun e w' => e = .returned (.bool true) ∧ Ext [] w w' := by
  have har : s.area < 0 := by rw [(hg.non hi).1]; decide
  have cl := fun w' (hx : Ext [] w w') => (h.keep hx).list7
  have cd := fun w' (hx : Ext [] w w') => (h.keep hx).data7 hf
  have cc := fun w' (hx : Ext [] w w') => (h.keep hx).chunk hf 0
  have ch := fun w' (hx : Ext [] w w') => (h.keep hx).hurt7 hf
  have e7 : s.chE V 0 = 7 := ch_out (.inl har)
  unfold ListTo at cl
  unfold ChPost at cc
  simp only [if_pos har] at cl
  rw [no_data har] at cd
  rw [e7, chV_out e7] at cc
  rw [no_hurt har] at ch
  have hb : decide (¬ s.area < 0) = false := by simp [har]
  rw [hb] at cl
  rw [hi]
  have HL := Hid.of cl
  have HD := Hid.of cd
  have HC := Hid.of cc
  have HH := Hid.of ch
  clear h hf hg har cl cd cc ch e7 hb
  generalize x.t = xt
  generalize x.d = xd
  obtain ⟨W, hW⟩ : ∃ W, W = w.alloc (.cells #[.int .i64 0, .int .i64 xt, str xd] 59) := ⟨_, rfl⟩
  have hxW : Ext [] w W := by rw [hW]; exact (Ext.refl _ _).alloc _
  have HB : Hid (Blk W w.heap.size 59 [.int .i64 0, .int .i64 xt, str xd]) := Hid.of (by rw [hW]; exact Blk.new w 59 #[.int .i64 0, .int .i64 xt, str xd])
  go_enter Try.func28, Try.ntmps28
  go_wp2_with fail
  try rw [← hW]
  refine (HL.out W hxW).mono ?_
  rintro e w2 ⟨sl, rfl, ho2, hx2, hv2⟩
  have ho2b : Own w2 35 1 sl 0 [] := ho2
  obtain ⟨sa, sc, rfl⟩ := Rd.isSlice ho2b.rd
  have hx3 := (hxW.then0 hx2).alloc (.cells #[.int .i64 0, .int .i64 0, .int .i64 0, .slice sa 0 sc] 42)
  have HX3 := Hid.of hx3
  have e0 : (w2.alloc (.cells #[.int .i64 0, .int .i64 0, .int .i64 0, .slice sa 0 sc] 42)).cell? ⟨w.heap.size, 0, none⟩ = some (.int .i64 0) := (hx2.alloc (.cells #[.int .i64 0, .int .i64 0, .int .i64 0, .slice sa 0 sc] 42)).cell (p := ⟨w.heap.size, 0, none⟩) (by simp) (by rw [Blk.c HB.out 0]; rfl)
  clear HL ho2 ho2b hv2 hx2 hx3 hW hxW HB
  unfold lsv
  simp only [Ls.zero]
  go_wp2_with fail
  refine (HD.out _ HX3.out).mono ?_
  rintro e w3 ⟨rfl, hx3⟩
  have HX4 := Hid.of (HX3.out.then0 hx3)
  clear HD e0 hx3 HX3
  go_wp2_with fail
  refine (HC.out _ HX4.out).mono ?_
  rintro e w4 ⟨rfl, hx4⟩
  have HX5 := Hid.of (HX4.out.then0 hx4)
  clear HC hx4 HX4
  go_wp2_with fail
  refine (HH.out _ HX5.out).mono ?_
  rintro e w5 ⟨v, rfl, ho5, hx5, hv5⟩
  obtain ⟨ya, yc, rfl⟩ := Rd.isSlice ho5.rd
  have HX6 := Hid.of (HX5.out.then0 hx5)
  clear HH hx5 HX5 ho5 hv5
  go_wp2
  go_ret
  exact ⟨rfl, HX6.out⟩
set_option maxRecDepth 100000 in
set_option maxHeartbeats 12800000 in
theorem holds_some (h : StM w0 w q b sv D s n O) (hf : Fine D n V 0) (hg : Good base V s x) (hi : x.i ≠ 0) (hd : x.d.length ≤ 1000000) :
    Calls Try.prog 28 #[.pointer (some ⟨q, 0, none⟩), .agg #[.int .i64 x.i, .int .i64 x.t, str x.d]] w fun e w' => e = .returned (.bool true) ∧ Ext [] w w' := by
  obtain ⟨hhas, -⟩ := hg.som hi
  have har : ¬ s.area < 0 := by have := hhas.area; omega
  have cl := fun w' (hx : Ext [] w w') => (h.keep hx).list7
  have cd := fun w' (hx : Ext [] w w') => (h.keep hx).data7 hf
  have cc := fun w' (hx : Ext [] w w') => (h.keep hx).chunk hf (s.list.sums.length : Int)
  have cm := fun w' (hx : Ext [] w w') => (h.keep hx).chunk hf (-1)
  have ch := fun w' (hx : Ext [] w w') => (h.keep hx).hurt7 hf
  have co := fun w' => ofl_any x.i x.t x.d w' (by omega)
  have e7 : s.chE V (s.list.sums.length : Int) = 7 := ch_out (.inr (.inr (Int.le_refl _)))
  have e8 : s.chE V (-1) = 7 := ch_out (.inr (.inl (by decide)))
  unfold ListTo at cl
  unfold ChPost at cc cm
  simp only [if_neg har] at cl
  rw [hhas.data] at cd
  rw [e7, chV_out e7] at cc
  rw [e8, chV_out e8] at cm
  rw [hhas.hurt] at ch
  have hb : decide (¬ s.area < 0) = true := by simp [har]
  rw [hb] at cl
  have hl := hhas.list
  rw [hl] at cl cc
  have hne : decide (x.i = 0) = false := decide_eq_false hi
  have hne2 : (x.i == 0) = false := by simp [hi]
  have cs : ∀ w' sa sb, Sums w' sa (ofL x.i x.t x.d).sums → Sums w' sb (ofL x.i x.t x.d).sums → Calls Try.prog 21 #[lsv (ofL x.i x.t x.d) sa, lsv (ofL x.i x.t x.d) sb] w' fun e w'' => e = .returned (.bool true) ∧ Ext [] w' w'' := fun w' sa sb ha hb => by
    have := same_any _ _ sa sb w' ha hb
    rwa [decide_eq_true rfl] at this
  have hlen : (ofL x.i x.t x.d).sums.length ≤ 64 := hhas.right.2.2.2.2.2.1
  generalize ofL x.i x.t x.d = l at cl cc co cs hlen
  have HL := Hid.of cl
  have HD := Hid.of cd
  have HC := Hid.of cc
  have HM := Hid.of cm
  have HH := Hid.of ch
  clear h hf hg har cl cd cc cm ch e7 e8 hb hl hhas hd
  generalize x.t = xt at *
  generalize x.d = xd at *
  generalize x.i = xi at *
  obtain ⟨B, hB⟩ : ∃ B, B = w.heap.size := ⟨_, rfl⟩
  obtain ⟨W, hW⟩ : ∃ W, W = w.alloc (.cells #[.int .i64 xi, .int .i64 xt, str xd] 59) := ⟨_, rfl⟩
  have hxW : Ext [] w W := by rw [hW]; exact (Ext.refl _ _).alloc _
  have HB : Hid (Blk W B 59 [.int .i64 xi, .int .i64 xt, str xd]) := Hid.of (by rw [hW]; exact Blk.newg hB.symm)
  go_enter Try.func28, Try.ntmps28
  go_wp2_with fail
  rw [← hB, ← hW]
  refine (HL.out W hxW).mono ?_
  rintro e w2 ⟨sl, rfl, ho2, hx2, hv2⟩
  obtain ⟨sa, sc, rfl⟩ := Rd.isSlice ho2.rd
  obtain ⟨R, hR⟩ : ∃ R, R = w2.heap.size := ⟨_, rfl⟩
  obtain ⟨W3, hW3⟩ : ∃ W3, W3 = w2.alloc (.cells #[.int .i64 l.idx, .int .i64 l.term, .int .i64 l.bytes, .slice sa l.sums.length sc] 42) := ⟨_, rfl⟩
  have hx23 : Ext [] w2 W3 := by rw [hW3]; exact (Ext.refl _ _).alloc _
  have HX3 : Hid (Ext [] w W3) := Hid.of ((hxW.then0 hx2).then0 hx23)
  have HR3 : Hid (Blk W3 R 42 [.int .i64 l.idx, .int .i64 l.term, .int .i64 l.bytes, .slice sa l.sums.length sc]) := Hid.of (by rw [hW3]; exact Blk.newg hR.symm)
  have HB3 : Hid (Blk W3 B 59 [.int .i64 xi, .int .i64 xt, str xd]) := Hid.of (Blk.keep HB.out (hx2.then0 hx23) (by simp))
  have HS3 : Hid (Sums W3 (.slice sa l.sums.length sc) l.sums) := Hid.of (Rd.keep ho2.rd hx23 (by simp))
  clear HL ho2 hv2 hx2 hxW hW HB hB hx23
  unfold lsv
  go_upto_region 2 with fail
  rw [← hW3, ← hR]
  clear hW3 hR
  have e0 := (Blk.c HB3.out 0 : W3.cell? ⟨B, 0, none⟩ = some (.int .i64 xi))
  go_wp2_with fail
  refine (HD.out _ HX3.out).mono ?_
  rintro e w3 ⟨rfl, hx3⟩
  have HX4 := Hid.of (HX3.out.then0 hx3)
  have r3 := (hx3.cell (p := ⟨R, 3, none⟩) (by simp) (Blk.c HR3.out 3) : w3.cell? ⟨R, 3, none⟩ = some (.slice sa l.sums.length sc))
  clear HD e0
  go_wp2_with fail
  refine (HC.out _ HX4.out).mono ?_
  rintro e w4 ⟨rfl, hx4⟩
  have HX5 := Hid.of (HX4.out.then0 hx4)
  clear HC r3
  go_wp2_with fail
  refine (HM.out _ HX5.out).mono ?_
  rintro e w5 ⟨rfl, hx5⟩
  have HX6 := Hid.of (HX5.out.then0 hx5)
  have hx35 := (hx3.then0 hx4).then0 hx5
  have HR5 := Hid.of (Blk.keep HR3.out hx35 (by simp))
  have HB5 := Hid.of (Blk.keep HB3.out hx35 (by simp))
  have HS5 := Hid.of (HS3.out.keep0 hx35)
  clear HM hx3 hx4 hx5 hx35 HR3 HB3 HS3 HX3 HX4 HX5
  have cm : ∀ w', Ext [] w5 w' → _ := fun w' hx => Blk4 (Blk.keep HR5.out hx (by simp))
  have cb : ∀ w', Ext [] w5 w' → w'.cell? ⟨B, 0, none⟩ = some (.int .i64 xi) ∧ w'.cell? ⟨B, 1, none⟩ = some (.int .i64 xt) ∧ w'.cell? ⟨B, 2, none⟩ = some (str xd) := fun w' hx => ⟨Blk.c (Blk.keep HB5.out hx (by simp)) 0, Blk.c (Blk.keep HB5.out hx (by simp)) 1, Blk.c (Blk.keep HB5.out hx (by simp)) 2⟩
  have c5 : ∀ w' zv, Ext [] w5 w' → Sums w' zv l.sums → Calls Try.prog 21 #[lsv l (.slice sa l.sums.length sc), lsv l zv] w' fun e w'' => e = .returned (.bool true) ∧ Ext [] w' w'' := fun w' zv hx hz => cs w' _ zv (HS5.out.keep0 hx) hz
  have c6 : ∀ w', Ext [] w5 w' → _ := fun w' hx => HH.out w' (HX6.out.then0 hx)
  unfold lsv at c5
  clear cs
  go_upto_region 9 with fail
  refine wp_region_u [69, 70, 71, 72, 73, 74, 75, 76, 77, 78, 79, 80, 81, 82, 83, 84, 85, 86, 87, 88, 89, 90, 91, 92, 93, 94, 95, 96, 97, 98, 99, 100, 101, 102, 103, 104, 4] [9, 24] (fun n => match n with | 0 => .bool true | 1 => .bool true | 2 => .agg #[.int .i64 l.idx, .int .i64 l.term, .int .i64 l.bytes, .slice sa l.sums.length sc] | 3 => .pointer (some ⟨B, 0, none⟩) | 4 => .int .i64 xi | 5 => .pointer (some ⟨B, 1, none⟩) | 6 => .int .i64 xt | 7 => .pointer (some ⟨B, 2, none⟩) | 8 => (str xd) | 10 => .bool true | 11 => .bool true | 12 => .bool true | 13 => .int .i64 0 | 14 => .bool true | 15 => .bool true | 16 => .bool true | 17 => (str xd) | 18 => .pointer (some ⟨B, 2, none⟩) | 19 => (str xd) | 20 => .bool true | 21 => .bool true | 22 => .bool true | 23 => .pointer (some ⟨q, 0, none⟩) | 25 => .int .i64 0 | 26 => .bool true | 27 => .bool true | 28 => .bool true | 29 => .int .i64 7 | 30 => .bool true | 31 => .bool true | 32 => .bool true | 33 => .int .i64 7 | 34 => .bool true | 35 => .bool true | 36 => .bool true | _ => undef) (fun f v wx => Ext [] w5 wx ∧ (f 9 = true → ∃ za zc, v 9 = .agg #[.int .i64 l.idx, .int .i64 l.term, .int .i64 l.bytes, .slice za l.sums.length zc] ∧ Sums wx (.slice za l.sums.length zc) l.sums) ∧ (f 24 = true → ∃ ya yc, v 24 = .slice ya 0 yc)) (by kernel_rfl) (by kernel_rfl) ?hst0_9 ?h00_9 ?hst_9 ?hend_9
  case hst0_9 =>
    rintro f v w w' ⟨hx, j9, j24⟩ hx2
    exact ⟨hx.then0 hx2, fun h => (by obtain ⟨za, zc, ez, hz⟩ := j9 h; exact ⟨za, zc, ez, hz.keep0 hx2⟩), j24⟩
  case h00_9 =>
    exact ⟨Ext.refl _ _, fun h => (by cases h), fun h => (by cases h)⟩
  case hst_9 =>
    refine ⟨?f0_9, ?f1_9, ?f2_9, ?f3_9, ?f4_9, ?f5_9, ?f6_9, ?f7_9, ?f8_9, ?f9_9, ?f10_9, ?f11_9, ?f12_9, ?f13_9, ?f14_9, ?f15_9, ?f16_9, ?f17_9, ?f18_9, ?f19_9, ?f20_9, ?f21_9, ?f22_9, ?f23_9, ?f24_9, ?f25_9, ?f26_9, ?f27_9, ?f28_9, ?f29_9, ?f30_9, ?f31_9, ?f32_9, ?f33_9, ?f34_9, ?f35_9, ?f36_9, trivial⟩
    case f0_9 =>
      intro f v g w' hJ hfi hb hd
      refine arm_u rfl ?_
      refine op_run rfl ?_
      generalize hA : mkAct _ _ g = A
      have h6 : A.tmps[6]?.getD undef = .bool true := by rw [← hA]; exact mkAct_out2 _ _ _ _ _ rfl rfl
      refine step_val (v := .bool true) (w' := w') ?_ ⟨rfl, Ext.refl _ _⟩
      simp [execOp, h6, Result.andThen, go_sem]
    case f1_9 =>
      intro f v g w' hJ hfi hb hd
      refine arm_u rfl ?_
      refine op_run rfl ?_
      have e69 : g 69 = .bool true := value_u (hd ⟨0, .data⟩ (by simp) rfl) rfl rfl
      generalize hA : mkAct _ _ g = A
      have h69 : A.tmps[69]?.getD undef = .bool true := by rw [← hA, mkAct_in2 _ _ _ _ rfl rfl]; exact e69
      refine step_val (v := .bool true) (w' := w') ?_ ⟨rfl, Ext.refl _ _⟩
      simp [execOp, h69, Result.andThen, go_sem]
    case f2_9 =>
      intro f v g w' hJ hfi hb hd
      refine arm_u rfl ?_
      have eg : g 70 = .bool true := value_u (hd ⟨1, .guard⟩ (by simp) rfl) rfl rfl
      refine op_yes rfl rfl rfl rfl eg ?_
      generalize hA : mkAct _ _ g = A
      have h5 : A.tmps[5]?.getD undef = .pointer (some ⟨R, 0, none⟩) := by rw [← hA]; exact mkAct_out2 _ _ _ _ _ rfl rfl
      obtain ⟨d0, d1, d2, d3⟩ := (cm w' hJ.1)
      refine step_val (v := .agg #[.int .i64 l.idx, .int .i64 l.term, .int .i64 l.bytes, .slice sa l.sums.length sc]) (w' := w') ?_ ⟨rfl, Ext.refl _ _⟩
      simp [execOp, h5, d0, d1, d2, d3, Result.andThen, go_sem]
    case f3_9 =>
      intro f v g w' hJ hfi hb hd
      refine arm_u rfl ?_
      have eg : g 70 = .bool true := value_u (hd ⟨1, .guard⟩ (by simp) rfl) rfl rfl
      refine op_yes rfl rfl rfl rfl eg ?_
      generalize hA : mkAct _ _ g = A
      have h3 : A.tmps[3]?.getD undef = .pointer (some ⟨B, 0, none⟩) := by rw [← hA]; exact mkAct_out2 _ _ _ _ _ rfl rfl
      refine step_val (v := .pointer (some ⟨B, 0, none⟩)) (w' := w') ?_ ⟨rfl, Ext.refl _ _⟩
      simp [execOp, h3, Result.andThen, go_sem]
    case f4_9 =>
      intro f v g w' hJ hfi hb hd
      refine arm_u rfl ?_
      have eg : g 70 = .bool true := value_u (hd ⟨1, .guard⟩ (by simp) rfl) rfl rfl
      refine op_yes rfl rfl rfl rfl eg ?_
      have e72 : g 72 = .pointer (some ⟨B, 0, none⟩) := value_u (hd ⟨3, .data⟩ (by simp) rfl) rfl rfl
      generalize hA : mkAct _ _ g = A
      have h72 : A.tmps[72]?.getD undef = .pointer (some ⟨B, 0, none⟩) := by rw [← hA, mkAct_in2 _ _ _ _ rfl rfl]; exact e72
      have c := (cb w' hJ.1).1
      refine step_val (v := .int .i64 xi) (w' := w') ?_ ⟨rfl, Ext.refl _ _⟩
      simp [execOp, h72, c, Result.andThen, go_sem]
    case f5_9 =>
      intro f v g w' hJ hfi hb hd
      refine arm_u rfl ?_
      have eg : g 70 = .bool true := value_u (hd ⟨1, .guard⟩ (by simp) rfl) rfl rfl
      refine op_yes rfl rfl rfl rfl eg ?_
      generalize hA : mkAct _ _ g = A
      have h3 : A.tmps[3]?.getD undef = .pointer (some ⟨B, 0, none⟩) := by rw [← hA]; exact mkAct_out2 _ _ _ _ _ rfl rfl
      refine step_val (v := .pointer (some ⟨B, 1, none⟩)) (w' := w') ?_ ⟨rfl, Ext.refl _ _⟩
      simp [execOp, h3, Result.andThen, go_sem]
    case f6_9 =>
      intro f v g w' hJ hfi hb hd
      refine arm_u rfl ?_
      have eg : g 70 = .bool true := value_u (hd ⟨1, .guard⟩ (by simp) rfl) rfl rfl
      refine op_yes rfl rfl rfl rfl eg ?_
      have e74 : g 74 = .pointer (some ⟨B, 1, none⟩) := value_u (hd ⟨5, .data⟩ (by simp) rfl) rfl rfl
      generalize hA : mkAct _ _ g = A
      have h74 : A.tmps[74]?.getD undef = .pointer (some ⟨B, 1, none⟩) := by rw [← hA, mkAct_in2 _ _ _ _ rfl rfl]; exact e74
      have c := (cb w' hJ.1).2.1
      refine step_val (v := .int .i64 xt) (w' := w') ?_ ⟨rfl, Ext.refl _ _⟩
      simp [execOp, h74, c, Result.andThen, go_sem]
    case f7_9 =>
      intro f v g w' hJ hfi hb hd
      refine arm_u rfl ?_
      have eg : g 70 = .bool true := value_u (hd ⟨1, .guard⟩ (by simp) rfl) rfl rfl
      refine op_yes rfl rfl rfl rfl eg ?_
      generalize hA : mkAct _ _ g = A
      have h3 : A.tmps[3]?.getD undef = .pointer (some ⟨B, 0, none⟩) := by rw [← hA]; exact mkAct_out2 _ _ _ _ _ rfl rfl
      refine step_val (v := .pointer (some ⟨B, 2, none⟩)) (w' := w') ?_ ⟨rfl, Ext.refl _ _⟩
      simp [execOp, h3, Result.andThen, go_sem]
    case f8_9 =>
      intro f v g w' hJ hfi hb hd
      refine arm_u rfl ?_
      have eg : g 70 = .bool true := value_u (hd ⟨1, .guard⟩ (by simp) rfl) rfl rfl
      refine op_yes rfl rfl rfl rfl eg ?_
      have e76 : g 76 = .pointer (some ⟨B, 2, none⟩) := value_u (hd ⟨7, .data⟩ (by simp) rfl) rfl rfl
      generalize hA : mkAct _ _ g = A
      have h76 : A.tmps[76]?.getD undef = .pointer (some ⟨B, 2, none⟩) := by rw [← hA, mkAct_in2 _ _ _ _ rfl rfl]; exact e76
      have c := (cb w' hJ.1).2.2
      refine step_val (v := (str xd)) (w' := w') ?_ ⟨rfl, Ext.refl _ _⟩
      simp [execOp, h76, c, Result.andThen, go_sem]
    case f9_9 =>
      intro f v g w' hJ hfi hb hd
      refine arms_u rfl ?_
      have eg : g 70 = .bool true := value_u (hd ⟨1, .guard⟩ (by simp) rfl) rfl rfl
      refine op_yes rfl rfl rfl rfl eg ?_
      have e73 : g 73 = .int .i64 xi := value_u (hd ⟨4, .data⟩ (by simp) rfl) rfl rfl
      have e75 : g 75 = .int .i64 xt := value_u (hd ⟨6, .data⟩ (by simp) rfl) rfl rfl
      have e77 : g 77 = (str xd) := value_u (hd ⟨8, .data⟩ (by simp) rfl) rfl rfl
      generalize hA : mkAct _ _ g = A
      have h73 : A.tmps[73]?.getD undef = .int .i64 xi := by rw [← hA, mkAct_in2 _ _ _ _ rfl rfl]; exact e73
      have h75 : A.tmps[75]?.getD undef = .int .i64 xt := by rw [← hA, mkAct_in2 _ _ _ _ rfl rfl]; exact e75
      have h77 : A.tmps[77]?.getD undef = (str xd) := by rw [← hA, mkAct_in2 _ _ _ _ rfl rfl]; exact e77
      refine mid_u (fun K hK => ?_)
      go_simp
      refine (co w').mono ?_
      rintro e w2 ⟨zv, rfl, ho, hx2, hv⟩
      obtain ⟨za, zc, rfl⟩ := Rd.isSlice ho.rd
      unfold lsv
      exact hK (.agg #[.int .i64 l.idx, .int .i64 l.term, .int .i64 l.bytes, .slice za l.sums.length zc]) w2 ⟨hJ.1.then0 hx2, fun _ => ⟨za, zc, setU_same _ _ _, ho.rd⟩, fun h24 => hJ.2.2 h24⟩
    case f10_9 =>
      intro f v g w' hJ hfi hb hd
      refine arm_u rfl ?_
      have eg : g 70 = .bool true := value_u (hd ⟨1, .guard⟩ (by simp) rfl) rfl rfl
      refine op_yes rfl rfl rfl rfl eg ?_
      have e71 : g 71 = .agg #[.int .i64 l.idx, .int .i64 l.term, .int .i64 l.bytes, .slice sa l.sums.length sc] := value_u (hd ⟨2, .data⟩ (by simp) rfl) rfl rfl
      obtain ⟨hf78, e78⟩ := special_u (hd ⟨9, .data⟩ (by simp) rfl) rfl rfl
      replace e78 : g 78 = v 9 := e78
      obtain ⟨za, zc, ez, hz⟩ := hJ.2.1 hf78
      rw [ez] at e78
      generalize hA : mkAct _ _ g = A
      have h71 : A.tmps[71]?.getD undef = .agg #[.int .i64 l.idx, .int .i64 l.term, .int .i64 l.bytes, .slice sa l.sums.length sc] := by rw [← hA, mkAct_in2 _ _ _ _ rfl rfl]; exact e71
      have h78 : A.tmps[78]?.getD undef = .agg #[.int .i64 l.idx, .int .i64 l.term, .int .i64 l.bytes, .slice za l.sums.length zc] := by rw [← hA, mkAct_in2 _ _ _ _ rfl rfl]; exact e78
      refine float_u (fun K hK => ?_)
      go_simp
      refine (c5 w' (.slice za l.sums.length zc) hJ.1 hz).mono ?_
      rintro e w2 ⟨rfl, hx2⟩
      exact hK w2 hx2
    case f11_9 =>
      intro f v g w' hJ hfi hb hd
      refine arm_u rfl ?_
      refine op_run rfl ?_
      have e70 : g 70 = .bool true := value_u (hd ⟨1, .data⟩ (by simp) rfl) rfl rfl
      have e79 : g 79 = .bool true := value_u (hd ⟨10, .data⟩ (by simp) rfl) rfl rfl
      generalize hA : mkAct _ _ g = A
      have h70 : A.tmps[70]?.getD undef = .bool true := by rw [← hA, mkAct_in2 _ _ _ _ rfl rfl]; exact e70
      have h79 : A.tmps[79]?.getD undef = .bool true := by rw [← hA, mkAct_in2 _ _ _ _ rfl rfl]; exact e79
      refine step_val (v := .bool true) (w' := w') ?_ ⟨rfl, Ext.refl _ _⟩
      simp [execOp, h70, h79, Result.andThen, go_sem]
    case f12_9 =>
      intro f v g w' hJ hfi hb hd
      refine arm_u rfl ?_
      refine op_run rfl ?_
      have e80 : g 80 = .bool true := value_u (hd ⟨11, .data⟩ (by simp) rfl) rfl rfl
      generalize hA : mkAct _ _ g = A
      have h80 : A.tmps[80]?.getD undef = .bool true := by rw [← hA, mkAct_in2 _ _ _ _ rfl rfl]; exact e80
      refine step_val (v := .bool true) (w' := w') ?_ ⟨rfl, Ext.refl _ _⟩
      simp [execOp, h80, Result.andThen, go_sem]
    case f13_9 =>
      intro f v g w' hJ hfi hb hd
      refine arm_u rfl ?_
      have eg : g 81 = .bool true := value_u (hd ⟨12, .guard⟩ (by simp) rfl) rfl rfl
      refine op_yes rfl rfl rfl rfl eg ?_
      generalize hA : mkAct _ _ g = A
      have h12 : A.tmps[12]?.getD undef = .int .i64 0 := by rw [← hA]; exact mkAct_out2 _ _ _ _ _ rfl rfl
      refine step_val (v := .int .i64 0) (w' := w') ?_ ⟨rfl, Ext.refl _ _⟩
      simp [execOp, h12, Result.andThen, go_sem]
    case f14_9 =>
      intro f v g w' hJ hfi hb hd
      refine arm_u rfl ?_
      have eg : g 81 = .bool true := value_u (hd ⟨12, .guard⟩ (by simp) rfl) rfl rfl
      refine op_yes rfl rfl rfl rfl eg ?_
      have e82 : g 82 = .int .i64 0 := value_u (hd ⟨13, .data⟩ (by simp) rfl) rfl rfl
      generalize hA : mkAct _ _ g = A
      have h82 : A.tmps[82]?.getD undef = .int .i64 0 := by rw [← hA, mkAct_in2 _ _ _ _ rfl rfl]; exact e82
      refine step_val (v := .bool true) (w' := w') ?_ ⟨rfl, Ext.refl _ _⟩
      simp [execOp, h82, Result.andThen, go_sem]
    case f15_9 =>
      intro f v g w' hJ hfi hb hd
      refine arm_u rfl ?_
      refine op_run rfl ?_
      have e81 : g 81 = .bool true := value_u (hd ⟨12, .data⟩ (by simp) rfl) rfl rfl
      have e83 : g 83 = .bool true := value_u (hd ⟨14, .data⟩ (by simp) rfl) rfl rfl
      generalize hA : mkAct _ _ g = A
      have h81 : A.tmps[81]?.getD undef = .bool true := by rw [← hA, mkAct_in2 _ _ _ _ rfl rfl]; exact e81
      have h83 : A.tmps[83]?.getD undef = .bool true := by rw [← hA, mkAct_in2 _ _ _ _ rfl rfl]; exact e83
      refine step_val (v := .bool true) (w' := w') ?_ ⟨rfl, Ext.refl _ _⟩
      simp [execOp, h81, h83, Result.andThen, go_sem]
    case f16_9 =>
      intro f v g w' hJ hfi hb hd
      refine arm_u rfl ?_
      refine op_run rfl ?_
      have e84 : g 84 = .bool true := value_u (hd ⟨15, .data⟩ (by simp) rfl) rfl rfl
      generalize hA : mkAct _ _ g = A
      have h84 : A.tmps[84]?.getD undef = .bool true := by rw [← hA, mkAct_in2 _ _ _ _ rfl rfl]; exact e84
      refine step_val (v := .bool true) (w' := w') ?_ ⟨rfl, Ext.refl _ _⟩
      simp [execOp, h84, Result.andThen, go_sem]
    case f17_9 =>
      intro f v g w' hJ hfi hb hd
      refine arm_u rfl ?_
      have eg : g 85 = .bool true := value_u (hd ⟨16, .guard⟩ (by simp) rfl) rfl rfl
      refine op_yes rfl rfl rfl rfl eg ?_
      generalize hA : mkAct _ _ g = A
      have h11 : A.tmps[11]?.getD undef = (str xd) := by rw [← hA]; exact mkAct_out2 _ _ _ _ _ rfl rfl
      refine step_val (v := (str xd)) (w' := w') ?_ ⟨rfl, Ext.refl _ _⟩
      simp [execOp, h11, Result.andThen, go_sem]
    case f18_9 =>
      intro f v g w' hJ hfi hb hd
      refine arm_u rfl ?_
      have eg : g 85 = .bool true := value_u (hd ⟨16, .guard⟩ (by simp) rfl) rfl rfl
      refine op_yes rfl rfl rfl rfl eg ?_
      generalize hA : mkAct _ _ g = A
      have h3 : A.tmps[3]?.getD undef = .pointer (some ⟨B, 0, none⟩) := by rw [← hA]; exact mkAct_out2 _ _ _ _ _ rfl rfl
      refine step_val (v := .pointer (some ⟨B, 2, none⟩)) (w' := w') ?_ ⟨rfl, Ext.refl _ _⟩
      simp [execOp, h3, Result.andThen, go_sem]
    case f19_9 =>
      intro f v g w' hJ hfi hb hd
      refine arm_u rfl ?_
      have eg : g 85 = .bool true := value_u (hd ⟨16, .guard⟩ (by simp) rfl) rfl rfl
      refine op_yes rfl rfl rfl rfl eg ?_
      have e87 : g 87 = .pointer (some ⟨B, 2, none⟩) := value_u (hd ⟨18, .data⟩ (by simp) rfl) rfl rfl
      generalize hA : mkAct _ _ g = A
      have h87 : A.tmps[87]?.getD undef = .pointer (some ⟨B, 2, none⟩) := by rw [← hA, mkAct_in2 _ _ _ _ rfl rfl]; exact e87
      have c := (cb w' hJ.1).2.2
      refine step_val (v := (str xd)) (w' := w') ?_ ⟨rfl, Ext.refl _ _⟩
      simp [execOp, h87, c, Result.andThen, go_sem]
    case f20_9 =>
      intro f v g w' hJ hfi hb hd
      refine arm_u rfl ?_
      have eg : g 85 = .bool true := value_u (hd ⟨16, .guard⟩ (by simp) rfl) rfl rfl
      refine op_yes rfl rfl rfl rfl eg ?_
      have e86 : g 86 = (str xd) := value_u (hd ⟨17, .data⟩ (by simp) rfl) rfl rfl
      have e88 : g 88 = (str xd) := value_u (hd ⟨19, .data⟩ (by simp) rfl) rfl rfl
      generalize hA : mkAct _ _ g = A
      have h86 : A.tmps[86]?.getD undef = (str xd) := by rw [← hA, mkAct_in2 _ _ _ _ rfl rfl]; exact e86
      have h88 : A.tmps[88]?.getD undef = (str xd) := by rw [← hA, mkAct_in2 _ _ _ _ rfl rfl]; exact e88
      refine step_val (v := .bool true) (w' := w') ?_ ⟨rfl, Ext.refl _ _⟩
      simp [execOp, h86, h88, Result.andThen, go_sem]
    case f21_9 =>
      intro f v g w' hJ hfi hb hd
      refine arm_u rfl ?_
      refine op_run rfl ?_
      have e85 : g 85 = .bool true := value_u (hd ⟨16, .data⟩ (by simp) rfl) rfl rfl
      have e89 : g 89 = .bool true := value_u (hd ⟨20, .data⟩ (by simp) rfl) rfl rfl
      generalize hA : mkAct _ _ g = A
      have h85 : A.tmps[85]?.getD undef = .bool true := by rw [← hA, mkAct_in2 _ _ _ _ rfl rfl]; exact e85
      have h89 : A.tmps[89]?.getD undef = .bool true := by rw [← hA, mkAct_in2 _ _ _ _ rfl rfl]; exact e89
      refine step_val (v := .bool true) (w' := w') ?_ ⟨rfl, Ext.refl _ _⟩
      simp [execOp, h85, h89, Result.andThen, go_sem]
    case f22_9 =>
      intro f v g w' hJ hfi hb hd
      refine arm_u rfl ?_
      refine op_run rfl ?_
      have e90 : g 90 = .bool true := value_u (hd ⟨21, .data⟩ (by simp) rfl) rfl rfl
      generalize hA : mkAct _ _ g = A
      have h90 : A.tmps[90]?.getD undef = .bool true := by rw [← hA, mkAct_in2 _ _ _ _ rfl rfl]; exact e90
      refine step_val (v := .bool true) (w' := w') ?_ ⟨rfl, Ext.refl _ _⟩
      simp [execOp, h90, Result.andThen, go_sem]
    case f23_9 =>
      intro f v g w' hJ hfi hb hd
      refine arm_u rfl ?_
      have eg : g 91 = .bool true := value_u (hd ⟨22, .guard⟩ (by simp) rfl) rfl rfl
      refine op_yes rfl rfl rfl rfl eg ?_
      generalize hA : mkAct _ _ g = A
      have h0 : A.tmps[0]?.getD undef = .pointer (some ⟨q, 0, none⟩) := by rw [← hA]; exact mkAct_out2 _ _ _ _ _ rfl rfl
      refine step_val (v := .pointer (some ⟨q, 0, none⟩)) (w' := w') ?_ ⟨rfl, Ext.refl _ _⟩
      simp [execOp, h0, Result.andThen, go_sem]
    case f24_9 =>
      intro f v g w' hJ hfi hb hd
      refine arms_u rfl ?_
      have eg : g 91 = .bool true := value_u (hd ⟨22, .guard⟩ (by simp) rfl) rfl rfl
      refine op_yes rfl rfl rfl rfl eg ?_
      have e92 : g 92 = .pointer (some ⟨q, 0, none⟩) := value_u (hd ⟨23, .data⟩ (by simp) rfl) rfl rfl
      generalize hA : mkAct _ _ g = A
      have h92 : A.tmps[92]?.getD undef = .pointer (some ⟨q, 0, none⟩) := by rw [← hA, mkAct_in2 _ _ _ _ rfl rfl]; exact e92
      refine mid_u (fun K hK => ?_)
      go_simp
      refine (c6 w' hJ.1).mono ?_
      rintro e w2 ⟨yv, rfl, ho, hx2, hv⟩
      obtain ⟨ya, yc, rfl⟩ := Rd.isSlice ho.rd
      exact hK (.slice ya 0 yc) w2 ⟨hJ.1.then0 hx2, fun h9 => (by obtain ⟨za, zc, ez, hz⟩ := hJ.2.1 h9; exact ⟨za, zc, ez, hz.keep0 hx2⟩), fun _ => ⟨ya, yc, setU_same _ _ _⟩⟩
    case f25_9 =>
      intro f v g w' hJ hfi hb hd
      refine arm_u rfl ?_
      have eg : g 91 = .bool true := value_u (hd ⟨22, .guard⟩ (by simp) rfl) rfl rfl
      refine op_yes rfl rfl rfl rfl eg ?_
      obtain ⟨hf93, e93⟩ := special_u (hd ⟨24, .data⟩ (by simp) rfl) rfl rfl
      replace e93 : g 93 = v 24 := e93
      obtain ⟨ya, yc, ey⟩ := hJ.2.2 hf93
      rw [ey] at e93
      generalize hA : mkAct _ _ g = A
      have h93 : A.tmps[93]?.getD undef = .slice ya 0 yc := by rw [← hA, mkAct_in2 _ _ _ _ rfl rfl]; exact e93
      refine step_val (v := .int .i64 0) (w' := w') ?_ ⟨rfl, Ext.refl _ _⟩
      simp [execOp, h93, Result.andThen, go_sem]
    case f26_9 =>
      intro f v g w' hJ hfi hb hd
      refine arm_u rfl ?_
      have eg : g 91 = .bool true := value_u (hd ⟨22, .guard⟩ (by simp) rfl) rfl rfl
      refine op_yes rfl rfl rfl rfl eg ?_
      have e94 : g 94 = .int .i64 0 := value_u (hd ⟨25, .data⟩ (by simp) rfl) rfl rfl
      generalize hA : mkAct _ _ g = A
      have h94 : A.tmps[94]?.getD undef = .int .i64 0 := by rw [← hA, mkAct_in2 _ _ _ _ rfl rfl]; exact e94
      refine step_val (v := .bool true) (w' := w') ?_ ⟨rfl, Ext.refl _ _⟩
      simp [execOp, h94, Result.andThen, go_sem]
    case f27_9 =>
      intro f v g w' hJ hfi hb hd
      refine arm_u rfl ?_
      refine op_run rfl ?_
      have e91 : g 91 = .bool true := value_u (hd ⟨22, .data⟩ (by simp) rfl) rfl rfl
      have e95 : g 95 = .bool true := value_u (hd ⟨26, .data⟩ (by simp) rfl) rfl rfl
      generalize hA : mkAct _ _ g = A
      have h91 : A.tmps[91]?.getD undef = .bool true := by rw [← hA, mkAct_in2 _ _ _ _ rfl rfl]; exact e91
      have h95 : A.tmps[95]?.getD undef = .bool true := by rw [← hA, mkAct_in2 _ _ _ _ rfl rfl]; exact e95
      refine step_val (v := .bool true) (w' := w') ?_ ⟨rfl, Ext.refl _ _⟩
      simp [execOp, h91, h95, Result.andThen, go_sem]
    case f28_9 =>
      intro f v g w' hJ hfi hb hd
      refine arm_u rfl ?_
      refine op_run rfl ?_
      have e96 : g 96 = .bool true := value_u (hd ⟨27, .data⟩ (by simp) rfl) rfl rfl
      generalize hA : mkAct _ _ g = A
      have h96 : A.tmps[96]?.getD undef = .bool true := by rw [← hA, mkAct_in2 _ _ _ _ rfl rfl]; exact e96
      refine step_val (v := .bool true) (w' := w') ?_ ⟨rfl, Ext.refl _ _⟩
      simp [execOp, h96, Result.andThen, go_sem]
    case f29_9 =>
      intro f v g w' hJ hfi hb hd
      refine arm_u rfl ?_
      have eg : g 97 = .bool true := value_u (hd ⟨28, .guard⟩ (by simp) rfl) rfl rfl
      refine op_yes rfl rfl rfl rfl eg ?_
      generalize hA : mkAct _ _ g = A
      have h14 : A.tmps[14]?.getD undef = .int .i64 7 := by rw [← hA]; exact mkAct_out2 _ _ _ _ _ rfl rfl
      refine step_val (v := .int .i64 7) (w' := w') ?_ ⟨rfl, Ext.refl _ _⟩
      simp [execOp, h14, Result.andThen, go_sem]
    case f30_9 =>
      intro f v g w' hJ hfi hb hd
      refine arm_u rfl ?_
      have eg : g 97 = .bool true := value_u (hd ⟨28, .guard⟩ (by simp) rfl) rfl rfl
      refine op_yes rfl rfl rfl rfl eg ?_
      have e98 : g 98 = .int .i64 7 := value_u (hd ⟨29, .data⟩ (by simp) rfl) rfl rfl
      generalize hA : mkAct _ _ g = A
      have h98 : A.tmps[98]?.getD undef = .int .i64 7 := by rw [← hA, mkAct_in2 _ _ _ _ rfl rfl]; exact e98
      refine step_val (v := .bool true) (w' := w') ?_ ⟨rfl, Ext.refl _ _⟩
      simp [execOp, h98, Result.andThen, go_sem]
    case f31_9 =>
      intro f v g w' hJ hfi hb hd
      refine arm_u rfl ?_
      refine op_run rfl ?_
      have e97 : g 97 = .bool true := value_u (hd ⟨28, .data⟩ (by simp) rfl) rfl rfl
      have e99 : g 99 = .bool true := value_u (hd ⟨30, .data⟩ (by simp) rfl) rfl rfl
      generalize hA : mkAct _ _ g = A
      have h97 : A.tmps[97]?.getD undef = .bool true := by rw [← hA, mkAct_in2 _ _ _ _ rfl rfl]; exact e97
      have h99 : A.tmps[99]?.getD undef = .bool true := by rw [← hA, mkAct_in2 _ _ _ _ rfl rfl]; exact e99
      refine step_val (v := .bool true) (w' := w') ?_ ⟨rfl, Ext.refl _ _⟩
      simp [execOp, h97, h99, Result.andThen, go_sem]
    case f32_9 =>
      intro f v g w' hJ hfi hb hd
      refine arm_u rfl ?_
      refine op_run rfl ?_
      have e100 : g 100 = .bool true := value_u (hd ⟨31, .data⟩ (by simp) rfl) rfl rfl
      generalize hA : mkAct _ _ g = A
      have h100 : A.tmps[100]?.getD undef = .bool true := by rw [← hA, mkAct_in2 _ _ _ _ rfl rfl]; exact e100
      refine step_val (v := .bool true) (w' := w') ?_ ⟨rfl, Ext.refl _ _⟩
      simp [execOp, h100, Result.andThen, go_sem]
    case f33_9 =>
      intro f v g w' hJ hfi hb hd
      refine arm_u rfl ?_
      have eg : g 101 = .bool true := value_u (hd ⟨32, .guard⟩ (by simp) rfl) rfl rfl
      refine op_yes rfl rfl rfl rfl eg ?_
      generalize hA : mkAct _ _ g = A
      have h16 : A.tmps[16]?.getD undef = .int .i64 7 := by rw [← hA]; exact mkAct_out2 _ _ _ _ _ rfl rfl
      refine step_val (v := .int .i64 7) (w' := w') ?_ ⟨rfl, Ext.refl _ _⟩
      simp [execOp, h16, Result.andThen, go_sem]
    case f34_9 =>
      intro f v g w' hJ hfi hb hd
      refine arm_u rfl ?_
      have eg : g 101 = .bool true := value_u (hd ⟨32, .guard⟩ (by simp) rfl) rfl rfl
      refine op_yes rfl rfl rfl rfl eg ?_
      have e102 : g 102 = .int .i64 7 := value_u (hd ⟨33, .data⟩ (by simp) rfl) rfl rfl
      generalize hA : mkAct _ _ g = A
      have h102 : A.tmps[102]?.getD undef = .int .i64 7 := by rw [← hA, mkAct_in2 _ _ _ _ rfl rfl]; exact e102
      refine step_val (v := .bool true) (w' := w') ?_ ⟨rfl, Ext.refl _ _⟩
      simp [execOp, h102, Result.andThen, go_sem]
    case f35_9 =>
      intro f v g w' hJ hfi hb hd
      refine arm_u rfl ?_
      refine op_run rfl ?_
      have e101 : g 101 = .bool true := value_u (hd ⟨32, .data⟩ (by simp) rfl) rfl rfl
      have e103 : g 103 = .bool true := value_u (hd ⟨34, .data⟩ (by simp) rfl) rfl rfl
      generalize hA : mkAct _ _ g = A
      have h101 : A.tmps[101]?.getD undef = .bool true := by rw [← hA, mkAct_in2 _ _ _ _ rfl rfl]; exact e101
      have h103 : A.tmps[103]?.getD undef = .bool true := by rw [← hA, mkAct_in2 _ _ _ _ rfl rfl]; exact e103
      refine step_val (v := .bool true) (w' := w') ?_ ⟨rfl, Ext.refl _ _⟩
      simp [execOp, h101, h103, Result.andThen, go_sem]
    case f36_9 =>
      intro f v g w' hJ hfi hb hd
      refine arm_u rfl ?_
      refine op_run rfl ?_
      have e104 : g 104 = .bool true := value_u (hd ⟨35, .data⟩ (by simp) rfl) rfl rfl
      generalize hA : mkAct _ _ g = A
      have h104 : A.tmps[104]?.getD undef = .bool true := by rw [← hA, mkAct_in2 _ _ _ _ rfl rfl]; exact e104
      refine step_val (v := .bool true) (w' := w') ?_ ⟨rfl, Ext.refl _ _⟩
      simp [execOp, h104, Result.andThen, go_sem]
  intro f v g wn hJ hk
  have e4 : g 4 = .bool true := value_u (hk 36 (by decide)) rfl rfl
  have hxe := hJ.1
  clear hk hJ cm cb c5 c6 co
  unfold mkAct; simp only [List.zipIdx_cons, List.zipIdx_nil, List.map_cons, List.map_nil, Nat.zero_add, Nat.reduceAdd, List.contains_cons, List.contains_nil, Nat.reduceBEq, Bool.or_false, Bool.or_true, ↓reduceIte, Bool.false_eq_true]
  rw [e4]
  go_wp2
  go_ret
  exact ⟨rfl, HX6.out.then0 hxe⟩
theorem holds7 (h : StM w0 w q b sv D s n O) (hf : Fine D n V 0) (hg : Good base V s x) (hd : x.d.length ≤ 1000000) :
    Calls Try.prog 28 #[.pointer (some ⟨q, 0, none⟩), .agg #[.int .i64 x.i, .int .i64 x.t, str x.d]] w fun e w' => e = .returned (.bool true) ∧ Ext [] w w' := by
  by_cases hi : x.i = 0
  · exact holds_none h hf hg hi
  · exact holds_some h hf hg hi hd
end
end Go.Proofs.Ytlnfigbcdmfmdaa
