/- ChunkCuts: the walk. (Printed by wip/gen_cuts7.py.) -/
import Derived.Test.YtlnfigbcdmfmdaaChkq
namespace Go.Proofs.Ytlnfigbcdmfmdaa
open Go.RowKit
set_option linter.unusedVariables false
set_option linter.unusedSimpArgs false
theorem i64_and4095 (n : Int) : bits .and .i64 n 4095 = n % 4096 := i64_mask n 4095 12 (by decide) (by decide)
attribute [local go_sem] i64_and4095

theorem xor1_ne (n : Int) : bits .xor .i64 n 1 ≠ n := by
  intro h
  have h' : IntKind.i64.wrap ((BitVec.ofInt 64 n ^^^ BitVec.ofInt 64 1).toNat : Nat) = n := h
  rw [IntKind.wrap_i64] at h'
  have hlt := (BitVec.ofInt 64 n ^^^ BitVec.ofInt 64 1).isLt
  have e : (BitVec.ofInt 64 n).toNat = (BitVec.ofInt 64 n ^^^ BitVec.ofInt 64 1).toNat := by
    rw [BitVec.toNat_ofInt]
    generalize (BitVec.ofInt 64 n ^^^ BitVec.ofInt 64 1).toNat = y at h' hlt
    omega
  have e2 : BitVec.ofInt 64 n ^^^ BitVec.ofInt 64 n = BitVec.ofInt 64 n ^^^ (BitVec.ofInt 64 n ^^^ BitVec.ofInt 64 1) := congrArg (fun z => BitVec.ofInt 64 n ^^^ z) (BitVec.eq_of_toNat_eq e)
  rw [← BitVec.xor_assoc, BitVec.xor_self, BitVec.zero_xor] at e2
  exact absurd e2 (by decide)
set_option maxRecDepth 100000 in
set_option maxHeartbeats 25600000 in
theorem cuts7_any (nn : Int) (hn : -9223372036854775808 ≤ nn ∧ nn ≤ 9223372036854775807) (seed : Int) (hseed : -9223372036854775808 ≤ seed ∧ seed ≤ 9223372036854775807) (ix : Int) (hix : -9223372036854775808 ≤ ix ∧ ix ≤ 9223372036854775807) (tm : Int) (htm : -9223372036854775808 ≤ tm ∧ tm ≤ 9223372036854775807) (w0 : World) :
    Calls Try.prog 4 #[.int .i64 nn, .int .i64 seed, .int .i64 ix, .int .i64 tm] w0 fun e w' => e = .returned (.bool true) ∧ Ext [] w0 w' := by
  go_enter Try.func4, Try.ntmps4
  go_wp2_with fail
  refine (head7_any w0).mono ?_
  rintro e w1 ⟨rfl, hx1⟩
  go_wp2_with fail
  refine (text7_any (nn % 4096) seed w1 (by omega)).mono ?_
  rintro e w2 ⟨tx, rfl, htl, hx2⟩
  have HX2 := Hid.of (hx1.then0 hx2)
  clear hx1 hx2
  go_wp2_with fail
  refine (cut_any tx w2 (by omega)).mono ?_
  rintro e w3 ⟨ss, rfl, ho3, hx3, hv3⟩
  obtain ⟨ps, hps⟩ : ∃ ps, ps = cutL tx := ⟨_, rfl⟩
  rw [← hps] at ho3
  obtain ⟨nk, hnk⟩ : ∃ m, m = ps.length := ⟨_, rfl⟩
  rw [← hnk] at ho3
  obtain ⟨za, zc, rfl⟩ := Rd.isSlice ho3.rd
  have HS3 : Hid (Rd w3 1 (.slice za nk zc) nk (ps.map str)) := Hid.of ho3.rd
  have HX3 := Hid.of (HX2.out.then0 hx3)
  have hK11 : nk ≤ 11 := by rw [hnk, hps, cutL_length]; omega
  have HPs := Hid.of hps
  have HNk := Hid.of hnk
  clear ho3 hx3 hv3 HX2 hps hnk
  go_wp2_with fail
  refine (ofl_any ix tm tx w3 (by omega)).mono ?_
  rintro e w4 ⟨sl, rfl, ho4, hx4, hv4⟩
  have hln : (ofL ix tm tx).sums.length = nk := by rw [HNk.out, HPs.out]; simp [ofL]
  have hsum : (ofL ix tm tx).sums = ps.map sumOf := by rw [HPs.out]; rfl
  rw [hln, hsum] at ho4
  obtain ⟨sa, sc, rfl⟩ := Rd.isSlice ho4.rd
  have htb : (ofL ix tm tx).bytes = nn % 4096 := by show (tx.length : Int) = _; omega
  obtain ⟨Lb, hLb⟩ : ∃ z, z = w4.heap.size := ⟨_, rfl⟩
  obtain ⟨w5, hw5⟩ : ∃ w, w = w4.alloc (.cells #[.int .i64 ix, .int .i64 tm, .int .i64 (nn % 4096), .slice sa nk sc] 42) := ⟨_, rfl⟩
  have hx5 : Ext [] w3 w5 := by rw [hw5]; exact hx4.alloc _
  have HL5 : Hid (Blk w5 Lb 42 [.int .i64 ix, .int .i64 tm, .int .i64 (nn % 4096), .slice sa nk sc]) := Hid.of (by rw [hw5]; exact Blk.newg hLb.symm)
  have HZ5 : Hid (Rd w5 1 (.slice za nk zc) nk (ps.map str)) := Hid.of (HS3.out.keep hx5 (by simp))
  have HS5 : Hid (Rd w5 1 (.slice sa nk sc) nk ((ps.map sumOf).map u32c)) := Hid.of (by rw [hw5]; exact ho4.rd.alloc _)
  have HX5 := Hid.of (HX3.out.then0 hx5)
  have HOf : Hid ((ofL ix tm tx).sums.length = nk ∧ (ofL ix tm tx).sums = ps.map sumOf ∧ (ofL ix tm tx).bytes = nn % 4096) := Hid.of ⟨hln, hsum, htb⟩
  clear ho4 hx4 hv4 hx5 HS3 HX3
  have e4 : lsv (ofL ix tm tx) (.slice sa nk sc) = .agg #[.int .i64 ix, .int .i64 tm, .int .i64 (nn % 4096), .slice sa nk sc] := by unfold lsv; rw [htb]; rfl
  rw [e4]
  clear e4 hln hsum htb
  go_upto_region 8 with fail
  rw [← hw5, ← hLb]
  clear hw5 hLb
  have HTl := Hid.of htl
  clear htl
  go_upto_region 9 with fail
  go_loopw [12, 31] (fun u12 u31 wr => ∃ k : Nat, u12 = str ((ps.take k).flatten) ∧ u31 = .int .i64 (k : Int) ∧ k ≤ nk ∧ Hid (Ext [] w5 wr)) (fun _ u31 _ => nk - (intOf u31).toNat)
  case atStart => exact ⟨0, rfl, rfl, by omega, Ext.refl _ _⟩
  case round =>
    obtain ⟨k, rfl, rfl, hk, hX⟩ := hrel
    by_cases hkl : k < nk
    · have hkp : k < ps.length := by have := HNk.out; omega
      obtain ⟨x, hx⟩ : ∃ x, ps[k]? = some x := ⟨_, List.getElem?_eq_getElem hkp⟩
      have hpc : 0 < x.length ∧ x.length ≤ 400 ∧ (k + 1 < nk → x.length = 400) := by
        obtain ⟨hk2, hxx⟩ := List.getElem?_eq_some_iff.1 hx
        have hk3 : k < (cutL tx).length := by have := HPs.out; rw [this] at hk2; exact hk2
        have h4 := cutL_piece tx k hk3
        have e : (cutL tx)[k] = x := by
          have := HPs.out
          subst this
          exact hxx
        rw [e] at h4
        exact ⟨h4.2.1, h4.2.2.1, fun h => h4.2.2.2 (by have h5 := HNk.out; rw [HPs.out] at h5; omega)⟩
      obtain ⟨hx0, hx4, hx400⟩ := hpc
      have hRr := HZ5.out.keep hX.out (by simp)
      obtain ⟨zg, zo, rfl, hgw, hc⟩ := hRr.view (by omega)
      have c0 : wr.cell? ⟨zg, zo + k, none⟩ = some (str x) := hc k _ (by rw [List.getElem?_map, hx]; rfl)
      obtain ⟨g0, so, rfl, hgs, hcs⟩ := HS5.out.view (by omega)
      have hsx := hcs k (u32c (sumOf x)) (by rw [List.getElem?_map, List.getElem?_map, hx]; rfl)
      unfold u32c at hsx
      have cs := fun w' (hx : Ext [] wr w') => (hX.out.then0 hx).cell (p := ⟨g0, so + k, none⟩) (by simp) hsx
      have cm := fun w' (hx : Ext [] wr w') => Blk4 (Blk.keep HL5.out (hX.out.then0 hx) (by simp))
      have htk : Hid ((ps.take (k + 1)).flatten = (ps.take k).flatten ++ x) := Hid.of (by rw [List.take_add_one, hx]; simp)
      have hfl : ((ps.take k).flatten).length ≤ 4095 := by
        have e : ps.flatten = tx := by rw [HPs.out]; exact cutL_flat tx
        have h2 : ps.flatten = (ps.take k).flatten ++ (ps.drop k).flatten := by rw [← List.flatten_append, List.take_append_drop]
        have h3 := congrArg List.length h2
        rw [e, List.length_append] at h3
        have := HTl.out
        omega
      have hk1 : (k : Int) < (nk : Int) := by omega
      have HX := Hid.of hx
      clear hRr hgw hc hgs hcs hsx hkp hx
      generalize hdv : (ps.take k).flatten = dv at hfl htk
      clear hdv
      go_upto_region 11 with fail
      clear c0
      go_cut [66] from 32 to 70 (fun u wx => u = .bool false ∧ Hid (Ext [] wr wx))
      case first =>
        by_cases e400 : x.length = 400
        · have e400i : (x.length : Int) = 400 := by omega
          have e4 : ((x.length : Int) == 400) = true := by rw [e400]; rfl
          have e0 : ((x.length : Int) == 0) = false := beq_false_of_ne (by omega)
          have hne : x ≠ [] := fun h => by rw [h] at hx0; exact absurd hx0 (by decide)
          have eg : (x.length : Int) ≤ 400 := by omega
          refine wp_region_u [36, 37, 38, 39, 40, 41, 42, 43, 44, 45, 46, 47, 48, 49, 50, 51, 52, 53, 54, 55, 56, 57, 58, 59, 60, 61, 62, 63, 64, 65, 66] [27] (fun n => match n with | 0 => .string ⟨x.toArray⟩ | 1 => .int .i64 (x.length : Int) | 2 => .bool false | 3 => .bool false | 4 => undef | 5 => undef | 6 => undef | 7 => undef | 8 => undef | 9 => .bool false | 10 => .bool false | 11 => .string ⟨x.toArray⟩ | 12 => .int .i64 (x.length : Int) | 13 => .bool false | 14 => .bool false | 15 => .bool false | 16 => .string ⟨x.toArray⟩ | 17 => .int .i64 (x.length : Int) | 18 => .bool false | 19 => .bool false | 20 => .bool false | 21 => .pointer (some ⟨Lb, 3, none⟩) | 22 => .slice (some ⟨g0, so, none⟩) nk sc | 23 => .int .i64 (k : Int) | 24 => .pointer (some ⟨g0, so + k, none⟩) | 25 => .int .u32 (u32v (sumOf x)) | 26 => .string ⟨x.toArray⟩ | 28 => .int .u32 (u32v (sumOf x)) | 29 => .bool false | 30 => .bool false | _ => undef) (fun f v wx => Ext [] wr wx ∧ (f 27 = true → ∃ z, v 27 = .slice (some ⟨z, 0, none⟩) 1 1 ∧ Blk wx z 9 [str x])) (by kernel_rfl) (by kernel_rfl) ?hst0_11a ?h00_11a ?hst_11a ?hend_11a
          case hst0_11a =>
            rintro f v w w' ⟨hx, j3⟩ hx2
            refine ⟨hx.then0 hx2, fun h => ?_⟩
            obtain ⟨z, ez, hz⟩ := j3 h
            exact ⟨z, ez, Blk.keep hz hx2 List.not_mem_nil⟩
          case h00_11a =>
            exact ⟨Ext.refl _ _, fun h => (by cases h)⟩
          case hst_11a =>
            refine ⟨?f0_11a, ?f1_11a, ?f2_11a, ?f3_11a, ?f4_11a, ?f5_11a, ?f6_11a, ?f7_11a, ?f8_11a, ?f9_11a, ?f10_11a, ?f11_11a, ?f12_11a, ?f13_11a, ?f14_11a, ?f15_11a, ?f16_11a, ?f17_11a, ?f18_11a, ?f19_11a, ?f20_11a, ?f21_11a, ?f22_11a, ?f23_11a, ?f24_11a, ?f25_11a, ?f26_11a, ?f27_11a, ?f28_11a, ?f29_11a, ?f30_11a, trivial⟩
            case f0_11a =>
              intro f v g w' hJ hfi hb hd
              refine arm_u rfl ?_
              refine op_run rfl ?_
              generalize hA : mkAct _ _ g = A
              have h14 : A.tmps[14]?.getD undef = .string ⟨x.toArray⟩ := by rw [← hA]; exact mkAct_out2 _ _ _ _ _ rfl rfl
              refine step_val (v := .string ⟨x.toArray⟩) (w' := w') ?_ ⟨rfl, Ext.refl _ _⟩
              simp [execOp, h14, Result.andThen, go_sem]
            case f1_11a =>
              intro f v g w' hJ hfi hb hd
              refine arm_u rfl ?_
              refine op_run rfl ?_
              have e36 : g 36 = .string ⟨x.toArray⟩ := value_u (hd ⟨0, .data⟩ (by simp) rfl) rfl rfl
              generalize hA : mkAct _ _ g = A
              have h36 : A.tmps[36]?.getD undef = .string ⟨x.toArray⟩ := by rw [← hA, mkAct_in2 _ _ _ _ rfl rfl]; exact e36
              refine step_val (v := .int .i64 (x.length : Int)) (w' := w') ?_ ⟨rfl, Ext.refl _ _⟩
              simp [execOp, h36, Result.andThen, go_sem]
            case f2_11a =>
              intro f v g w' hJ hfi hb hd
              refine arm_u rfl ?_
              refine op_run rfl ?_
              have e37 : g 37 = .int .i64 (x.length : Int) := value_u (hd ⟨1, .data⟩ (by simp) rfl) rfl rfl
              generalize hA : mkAct _ _ g = A
              have h37 : A.tmps[37]?.getD undef = .int .i64 (x.length : Int) := by rw [← hA, mkAct_in2 _ _ _ _ rfl rfl]; exact e37
              refine step_val (v := .bool false) (w' := w') ?_ ⟨rfl, Ext.refl _ _⟩
              simp [execOp, e4, e400i, h37, Result.andThen, go_sem]
            case f3_11a =>
              intro f v g w' hJ hfi hb hd
              refine arm_u rfl ?_
              refine op_run rfl ?_
              have e38 : g 38 = .bool false := value_u (hd ⟨2, .data⟩ (by simp) rfl) rfl rfl
              generalize hA : mkAct _ _ g = A
              have h38 : A.tmps[38]?.getD undef = .bool false := by rw [← hA, mkAct_in2 _ _ _ _ rfl rfl]; exact e38
              refine step_val (v := .bool false) (w' := w') ?_ ⟨rfl, Ext.refl _ _⟩
              simp [execOp, h38, Result.andThen, go_sem]
            case f4_11a =>
              intro f v g w' hJ hfi hb hd
              refine arm_u rfl ?_
              have eg : g 39 = .bool false := value_u (hd ⟨3, .guard⟩ (by simp) rfl) rfl rfl
              exact op_no rfl rfl rfl rfl false eg (by decide) ⟨rfl, Ext.refl _ _⟩
            case f5_11a =>
              intro f v g w' hJ hfi hb hd
              refine arm_u rfl ?_
              have eg : g 39 = .bool false := value_u (hd ⟨3, .guard⟩ (by simp) rfl) rfl rfl
              exact op_no rfl rfl rfl rfl false eg (by decide) ⟨rfl, Ext.refl _ _⟩
            case f6_11a =>
              intro f v g w' hJ hfi hb hd
              refine arm_u rfl ?_
              have eg : g 39 = .bool false := value_u (hd ⟨3, .guard⟩ (by simp) rfl) rfl rfl
              exact op_no rfl rfl rfl rfl false eg (by decide) ⟨rfl, Ext.refl _ _⟩
            case f7_11a =>
              intro f v g w' hJ hfi hb hd
              refine arm_u rfl ?_
              have eg : g 39 = .bool false := value_u (hd ⟨3, .guard⟩ (by simp) rfl) rfl rfl
              exact op_no rfl rfl rfl rfl false eg (by decide) ⟨rfl, Ext.refl _ _⟩
            case f8_11a =>
              intro f v g w' hJ hfi hb hd
              refine arm_u rfl ?_
              have eg : g 39 = .bool false := value_u (hd ⟨3, .guard⟩ (by simp) rfl) rfl rfl
              exact op_no rfl rfl rfl rfl false eg (by decide) ⟨rfl, Ext.refl _ _⟩
            case f9_11a =>
              intro f v g w' hJ hfi hb hd
              refine arm_u rfl ?_
              refine op_run rfl ?_
              have e39 : g 39 = .bool false := value_u (hd ⟨3, .data⟩ (by simp) rfl) rfl rfl
              have e44 : g 44 = undef := value_u (hd ⟨8, .data⟩ (by simp) rfl) rfl rfl
              generalize hA : mkAct _ _ g = A
              have h39 : A.tmps[39]?.getD undef = .bool false := by rw [← hA, mkAct_in2 _ _ _ _ rfl rfl]; exact e39
              have h44 : A.tmps[44]?.getD undef = undef := by rw [← hA, mkAct_in2 _ _ _ _ rfl rfl]; exact e44
              refine step_val (v := .bool false) (w' := w') ?_ ⟨rfl, Ext.refl _ _⟩
              simp [execOp, h39, h44, Result.andThen, go_sem]
            case f10_11a =>
              intro f v g w' hJ hfi hb hd
              refine arm_u rfl ?_
              refine op_run rfl ?_
              have e45 : g 45 = .bool false := value_u (hd ⟨9, .data⟩ (by simp) rfl) rfl rfl
              generalize hA : mkAct _ _ g = A
              have h45 : A.tmps[45]?.getD undef = .bool false := by rw [← hA, mkAct_in2 _ _ _ _ rfl rfl]; exact e45
              refine step_val (v := .bool false) (w' := w') ?_ ⟨rfl, Ext.refl _ _⟩
              simp [execOp, h45, Result.andThen, go_sem]
            case f11_11a =>
              intro f v g w' hJ hfi hb hd
              refine arm_u rfl ?_
              have eg : g 46 = .bool false := value_u (hd ⟨10, .guard⟩ (by simp) rfl) rfl rfl
              refine op_yes rfl rfl rfl rfl eg ?_
              generalize hA : mkAct _ _ g = A
              have h14 : A.tmps[14]?.getD undef = .string ⟨x.toArray⟩ := by rw [← hA]; exact mkAct_out2 _ _ _ _ _ rfl rfl
              refine step_val (v := .string ⟨x.toArray⟩) (w' := w') ?_ ⟨rfl, Ext.refl _ _⟩
              simp [execOp, h14, Result.andThen, go_sem]
            case f12_11a =>
              intro f v g w' hJ hfi hb hd
              refine arm_u rfl ?_
              have eg : g 46 = .bool false := value_u (hd ⟨10, .guard⟩ (by simp) rfl) rfl rfl
              refine op_yes rfl rfl rfl rfl eg ?_
              have e47 : g 47 = .string ⟨x.toArray⟩ := value_u (hd ⟨11, .data⟩ (by simp) rfl) rfl rfl
              generalize hA : mkAct _ _ g = A
              have h47 : A.tmps[47]?.getD undef = .string ⟨x.toArray⟩ := by rw [← hA, mkAct_in2 _ _ _ _ rfl rfl]; exact e47
              refine step_val (v := .int .i64 (x.length : Int)) (w' := w') ?_ ⟨rfl, Ext.refl _ _⟩
              simp [execOp, h47, Result.andThen, go_sem]
            case f13_11a =>
              intro f v g w' hJ hfi hb hd
              refine arm_u rfl ?_
              have eg : g 46 = .bool false := value_u (hd ⟨10, .guard⟩ (by simp) rfl) rfl rfl
              refine op_yes rfl rfl rfl rfl eg ?_
              have e48 : g 48 = .int .i64 (x.length : Int) := value_u (hd ⟨12, .data⟩ (by simp) rfl) rfl rfl
              generalize hA : mkAct _ _ g = A
              have h48 : A.tmps[48]?.getD undef = .int .i64 (x.length : Int) := by rw [← hA, mkAct_in2 _ _ _ _ rfl rfl]; exact e48
              refine step_val (v := .bool false) (w' := w') ?_ ⟨rfl, Ext.refl _ _⟩
              simp [execOp, e0, hne, h48, Result.andThen, go_sem]
            case f14_11a =>
              intro f v g w' hJ hfi hb hd
              refine arm_u rfl ?_
              refine op_run rfl ?_
              have e46 : g 46 = .bool false := value_u (hd ⟨10, .data⟩ (by simp) rfl) rfl rfl
              have e49 : g 49 = .bool false := value_u (hd ⟨13, .data⟩ (by simp) rfl) rfl rfl
              generalize hA : mkAct _ _ g = A
              have h46 : A.tmps[46]?.getD undef = .bool false := by rw [← hA, mkAct_in2 _ _ _ _ rfl rfl]; exact e46
              have h49 : A.tmps[49]?.getD undef = .bool false := by rw [← hA, mkAct_in2 _ _ _ _ rfl rfl]; exact e49
              refine step_val (v := .bool false) (w' := w') ?_ ⟨rfl, Ext.refl _ _⟩
              simp [execOp, h46, h49, Result.andThen, go_sem]
            case f15_11a =>
              intro f v g w' hJ hfi hb hd
              refine arm_u rfl ?_
              refine op_run rfl ?_
              have e50 : g 50 = .bool false := value_u (hd ⟨14, .data⟩ (by simp) rfl) rfl rfl
              generalize hA : mkAct _ _ g = A
              have h50 : A.tmps[50]?.getD undef = .bool false := by rw [← hA, mkAct_in2 _ _ _ _ rfl rfl]; exact e50
              refine step_val (v := .bool false) (w' := w') ?_ ⟨rfl, Ext.refl _ _⟩
              simp [execOp, h50, Result.andThen, go_sem]
            case f16_11a =>
              intro f v g w' hJ hfi hb hd
              refine arm_u rfl ?_
              have eg : g 51 = .bool false := value_u (hd ⟨15, .guard⟩ (by simp) rfl) rfl rfl
              refine op_yes rfl rfl rfl rfl eg ?_
              generalize hA : mkAct _ _ g = A
              have h14 : A.tmps[14]?.getD undef = .string ⟨x.toArray⟩ := by rw [← hA]; exact mkAct_out2 _ _ _ _ _ rfl rfl
              refine step_val (v := .string ⟨x.toArray⟩) (w' := w') ?_ ⟨rfl, Ext.refl _ _⟩
              simp [execOp, h14, Result.andThen, go_sem]
            case f17_11a =>
              intro f v g w' hJ hfi hb hd
              refine arm_u rfl ?_
              have eg : g 51 = .bool false := value_u (hd ⟨15, .guard⟩ (by simp) rfl) rfl rfl
              refine op_yes rfl rfl rfl rfl eg ?_
              have e52 : g 52 = .string ⟨x.toArray⟩ := value_u (hd ⟨16, .data⟩ (by simp) rfl) rfl rfl
              generalize hA : mkAct _ _ g = A
              have h52 : A.tmps[52]?.getD undef = .string ⟨x.toArray⟩ := by rw [← hA, mkAct_in2 _ _ _ _ rfl rfl]; exact e52
              refine step_val (v := .int .i64 (x.length : Int)) (w' := w') ?_ ⟨rfl, Ext.refl _ _⟩
              simp [execOp, h52, Result.andThen, go_sem]
            case f18_11a =>
              intro f v g w' hJ hfi hb hd
              refine arm_u rfl ?_
              have eg : g 51 = .bool false := value_u (hd ⟨15, .guard⟩ (by simp) rfl) rfl rfl
              refine op_yes rfl rfl rfl rfl eg ?_
              have e53 : g 53 = .int .i64 (x.length : Int) := value_u (hd ⟨17, .data⟩ (by simp) rfl) rfl rfl
              generalize hA : mkAct _ _ g = A
              have h53 : A.tmps[53]?.getD undef = .int .i64 (x.length : Int) := by rw [← hA, mkAct_in2 _ _ _ _ rfl rfl]; exact e53
              refine step_val (v := .bool false) (w' := w') ?_ ⟨rfl, Ext.refl _ _⟩
              simp [execOp, eg, h53, Result.andThen, go_sem]
              all_goals (first | exact eg | omega)
            case f19_11a =>
              intro f v g w' hJ hfi hb hd
              refine arm_u rfl ?_
              refine op_run rfl ?_
              have e51 : g 51 = .bool false := value_u (hd ⟨15, .data⟩ (by simp) rfl) rfl rfl
              have e54 : g 54 = .bool false := value_u (hd ⟨18, .data⟩ (by simp) rfl) rfl rfl
              generalize hA : mkAct _ _ g = A
              have h51 : A.tmps[51]?.getD undef = .bool false := by rw [← hA, mkAct_in2 _ _ _ _ rfl rfl]; exact e51
              have h54 : A.tmps[54]?.getD undef = .bool false := by rw [← hA, mkAct_in2 _ _ _ _ rfl rfl]; exact e54
              refine step_val (v := .bool false) (w' := w') ?_ ⟨rfl, Ext.refl _ _⟩
              simp [execOp, h51, h54, Result.andThen, go_sem]
            case f20_11a =>
              intro f v g w' hJ hfi hb hd
              refine arm_u rfl ?_
              refine op_run rfl ?_
              have e55 : g 55 = .bool false := value_u (hd ⟨19, .data⟩ (by simp) rfl) rfl rfl
              generalize hA : mkAct _ _ g = A
              have h55 : A.tmps[55]?.getD undef = .bool false := by rw [← hA, mkAct_in2 _ _ _ _ rfl rfl]; exact e55
              refine step_val (v := .bool false) (w' := w') ?_ ⟨rfl, Ext.refl _ _⟩
              simp [execOp, h55, Result.andThen, go_sem]
            case f21_11a =>
              intro f v g w' hJ hfi hb hd
              refine arm_u rfl ?_
              have eg : g 56 = .bool false := value_u (hd ⟨20, .guard⟩ (by simp) rfl) rfl rfl
              refine op_yes rfl rfl rfl rfl eg ?_
              generalize hA : mkAct _ _ g = A
              have h11 : A.tmps[11]?.getD undef = .pointer (some ⟨Lb, 0, none⟩) := by rw [← hA]; exact mkAct_out2 _ _ _ _ _ rfl rfl
              refine step_val (v := .pointer (some ⟨Lb, 3, none⟩)) (w' := w') ?_ ⟨rfl, Ext.refl _ _⟩
              simp [execOp, h11, Result.andThen, go_sem]
            case f22_11a =>
              intro f v g w' hJ hfi hb hd
              refine arm_u rfl ?_
              have eg : g 56 = .bool false := value_u (hd ⟨20, .guard⟩ (by simp) rfl) rfl rfl
              refine op_yes rfl rfl rfl rfl eg ?_
              have e57 : g 57 = .pointer (some ⟨Lb, 3, none⟩) := value_u (hd ⟨21, .data⟩ (by simp) rfl) rfl rfl
              generalize hA : mkAct _ _ g = A
              have h57 : A.tmps[57]?.getD undef = .pointer (some ⟨Lb, 3, none⟩) := by rw [← hA, mkAct_in2 _ _ _ _ rfl rfl]; exact e57
              have c := (cm w' hJ.1).2.2.2
              refine step_val (v := .slice (some ⟨g0, so, none⟩) nk sc) (w' := w') ?_ ⟨rfl, Ext.refl _ _⟩
              simp [execOp, h57, c, Result.andThen, go_sem]
            case f23_11a =>
              intro f v g w' hJ hfi hb hd
              refine arm_u rfl ?_
              have eg : g 56 = .bool false := value_u (hd ⟨20, .guard⟩ (by simp) rfl) rfl rfl
              refine op_yes rfl rfl rfl rfl eg ?_
              generalize hA : mkAct _ _ g = A
              have h13 : A.tmps[13]?.getD undef = .int .i64 (k : Int) := by rw [← hA]; exact mkAct_out2 _ _ _ _ _ rfl rfl
              refine step_val (v := .int .i64 (k : Int)) (w' := w') ?_ ⟨rfl, Ext.refl _ _⟩
              simp [execOp, h13, Result.andThen, go_sem]
            case f24_11a =>
              intro f v g w' hJ hfi hb hd
              refine arm_u rfl ?_
              have eg : g 56 = .bool false := value_u (hd ⟨20, .guard⟩ (by simp) rfl) rfl rfl
              refine op_yes rfl rfl rfl rfl eg ?_
              have e58 : g 58 = .slice (some ⟨g0, so, none⟩) nk sc := value_u (hd ⟨22, .data⟩ (by simp) rfl) rfl rfl
              have e59 : g 59 = .int .i64 (k : Int) := value_u (hd ⟨23, .data⟩ (by simp) rfl) rfl rfl
              generalize hA : mkAct _ _ g = A
              have h58 : A.tmps[58]?.getD undef = .slice (some ⟨g0, so, none⟩) nk sc := by rw [← hA, mkAct_in2 _ _ _ _ rfl rfl]; exact e58
              have h59 : A.tmps[59]?.getD undef = .int .i64 (k : Int) := by rw [← hA, mkAct_in2 _ _ _ _ rfl rfl]; exact e59
              refine step_val (v := .pointer (some ⟨g0, so + k, none⟩)) (w' := w') ?_ ⟨rfl, Ext.refl _ _⟩
              simp [execOp, hkl, h58, h59, Result.andThen, go_sem]
            case f25_11a =>
              intro f v g w' hJ hfi hb hd
              refine arm_u rfl ?_
              have eg : g 56 = .bool false := value_u (hd ⟨20, .guard⟩ (by simp) rfl) rfl rfl
              refine op_yes rfl rfl rfl rfl eg ?_
              have e60 : g 60 = .pointer (some ⟨g0, so + k, none⟩) := value_u (hd ⟨24, .data⟩ (by simp) rfl) rfl rfl
              generalize hA : mkAct _ _ g = A
              have h60 : A.tmps[60]?.getD undef = .pointer (some ⟨g0, so + k, none⟩) := by rw [← hA, mkAct_in2 _ _ _ _ rfl rfl]; exact e60
              have c := cs w' hJ.1
              refine step_val (v := .int .u32 (u32v (sumOf x))) (w' := w') ?_ ⟨rfl, Ext.refl _ _⟩
              simp [execOp, h60, c, Result.andThen, go_sem]
            case f26_11a =>
              intro f v g w' hJ hfi hb hd
              refine arm_u rfl ?_
              have eg : g 56 = .bool false := value_u (hd ⟨20, .guard⟩ (by simp) rfl) rfl rfl
              refine op_yes rfl rfl rfl rfl eg ?_
              generalize hA : mkAct _ _ g = A
              have h14 : A.tmps[14]?.getD undef = .string ⟨x.toArray⟩ := by rw [← hA]; exact mkAct_out2 _ _ _ _ _ rfl rfl
              refine step_val (v := .string ⟨x.toArray⟩) (w' := w') ?_ ⟨rfl, Ext.refl _ _⟩
              simp [execOp, h14, Result.andThen, go_sem]
            case f27_11a =>
              intro f v g w' hJ hfi hb hd
              refine arms_u rfl ?_
              have eg : g 56 = .bool false := value_u (hd ⟨20, .guard⟩ (by simp) rfl) rfl rfl
              refine op_yes rfl rfl rfl rfl eg ?_
              have e62 : g 62 = .string ⟨x.toArray⟩ := value_u (hd ⟨26, .data⟩ (by simp) rfl) rfl rfl
              generalize hA : mkAct _ _ g = A
              have h62 : A.tmps[62]?.getD undef = .string ⟨x.toArray⟩ := by rw [← hA, mkAct_in2 _ _ _ _ rfl rfl]; exact e62
              have hxa : Ext [] w' (w'.alloc (.cells #[.string ⟨x.toArray⟩] 9)) := (Ext.refl _ _).alloc _
              refine step_val (v := .slice (some ⟨w'.heap.size, 0, none⟩) 1 1) (w' := w'.alloc (.cells #[.string ⟨x.toArray⟩] 9)) ?_ ⟨_, rfl, hJ.1.then0 hxa, fun _ => ⟨w'.heap.size, setU_same _ _ _, Blk.new w' 9 #[str x]⟩⟩
              simp [execOp, h62, Result.andThen, go_sem]
            case f28_11a =>
              intro f v g w' hJ hfi hb hd
              refine arm_u rfl ?_
              have eg : g 56 = .bool false := value_u (hd ⟨20, .guard⟩ (by simp) rfl) rfl rfl
              refine op_yes rfl rfl rfl rfl eg ?_
              obtain ⟨hf63, e63⟩ := special_u (hd ⟨27, .data⟩ (by simp) rfl) rfl rfl
              replace e63 : g 63 = v 27 := e63
              obtain ⟨z, ez, hz⟩ := hJ.2 hf63
              rw [ez] at e63
              generalize hA : mkAct _ _ g = A
              have h63 : A.tmps[63]?.getD undef = .slice (some ⟨z, 0, none⟩) 1 1 := by rw [← hA, mkAct_in2 _ _ _ _ rfl rfl]; exact e63
              refine float_u (fun K hK => ?_)
              go_simp
              refine (ofStr_any x w' z hz (by omega)).mono ?_
              rintro e w2 ⟨rfl, hx2⟩
              exact hK w2 hx2
            case f29_11a =>
              intro f v g w' hJ hfi hb hd
              refine arm_u rfl ?_
              have eg : g 56 = .bool false := value_u (hd ⟨20, .guard⟩ (by simp) rfl) rfl rfl
              refine op_yes rfl rfl rfl rfl eg ?_
              have e61 : g 61 = .int .u32 (u32v (sumOf x)) := value_u (hd ⟨25, .data⟩ (by simp) rfl) rfl rfl
              have e64 : g 64 = .int .u32 (u32v (sumOf x)) := value_u (hd ⟨28, .data⟩ (by simp) rfl) rfl rfl
              generalize hA : mkAct _ _ g = A
              have h61 : A.tmps[61]?.getD undef = .int .u32 (u32v (sumOf x)) := by rw [← hA, mkAct_in2 _ _ _ _ rfl rfl]; exact e61
              have h64 : A.tmps[64]?.getD undef = .int .u32 (u32v (sumOf x)) := by rw [← hA, mkAct_in2 _ _ _ _ rfl rfl]; exact e64
              refine step_val (v := .bool false) (w' := w') ?_ ⟨rfl, Ext.refl _ _⟩
              simp [execOp, h61, h64, Result.andThen, go_sem]
            case f30_11a =>
              intro f v g w' hJ hfi hb hd
              refine arm_u rfl ?_
              refine op_run rfl ?_
              have e56 : g 56 = .bool false := value_u (hd ⟨20, .data⟩ (by simp) rfl) rfl rfl
              have e65 : g 65 = .bool false := value_u (hd ⟨29, .data⟩ (by simp) rfl) rfl rfl
              generalize hA : mkAct _ _ g = A
              have h56 : A.tmps[56]?.getD undef = .bool false := by rw [← hA, mkAct_in2 _ _ _ _ rfl rfl]; exact e56
              have h65 : A.tmps[65]?.getD undef = .bool false := by rw [← hA, mkAct_in2 _ _ _ _ rfl rfl]; exact e65
              refine step_val (v := .bool false) (w' := w') ?_ ⟨rfl, Ext.refl _ _⟩
              simp [execOp, h56, h65, Result.andThen, go_sem]
          intro f v g wn hJ hk
          have e66 : g 66 = .bool false := value_u (hk 30 (by decide)) rfl rfl
          have hxe := hJ.1
          clear hk hJ cm cs
          unfold mkAct; simp only [List.zipIdx_cons, List.zipIdx_nil, List.map_cons, List.map_nil, Nat.zero_add, Nat.reduceAdd, List.contains_cons, List.contains_nil, Nat.reduceBEq, Bool.or_false, Bool.or_true, ↓reduceIte, Bool.false_eq_true]
          rw [e66]
          go_wp2_with fail
          go_meet
          exact ⟨rfl, hxe⟩
        · have e400i : ¬ (x.length : Int) = 400 := by omega
          have e4 : ((x.length : Int) == 400) = false := beq_false_of_ne (by omega)
          have e0 : ((x.length : Int) == 0) = false := beq_false_of_ne (by omega)
          have hne : x ≠ [] := fun h => by rw [h] at hx0; exact absurd hx0 (by decide)
          have eg : (x.length : Int) ≤ 400 := by omega
          have el : decide ((k : Int) + 1 < (nk : Int)) = false := decide_eq_false (fun h => e400 (hx400 (by omega)))
          refine wp_region_u [36, 37, 38, 39, 40, 41, 42, 43, 44, 45, 46, 47, 48, 49, 50, 51, 52, 53, 54, 55, 56, 57, 58, 59, 60, 61, 62, 63, 64, 65, 66] [27] (fun n => match n with | 0 => .string ⟨x.toArray⟩ | 1 => .int .i64 (x.length : Int) | 2 => .bool true | 3 => .bool true | 4 => .int .i64 (k : Int) | 5 => .int .i64 ((k : Int) + 1) | 6 => .slice (some ⟨zg, zo, none⟩) nk zc | 7 => .int .i64 (nk : Int) | 8 => .bool false | 9 => .bool false | 10 => .bool false | 11 => .string ⟨x.toArray⟩ | 12 => .int .i64 (x.length : Int) | 13 => .bool false | 14 => .bool false | 15 => .bool false | 16 => .string ⟨x.toArray⟩ | 17 => .int .i64 (x.length : Int) | 18 => .bool false | 19 => .bool false | 20 => .bool false | 21 => .pointer (some ⟨Lb, 3, none⟩) | 22 => .slice (some ⟨g0, so, none⟩) nk sc | 23 => .int .i64 (k : Int) | 24 => .pointer (some ⟨g0, so + k, none⟩) | 25 => .int .u32 (u32v (sumOf x)) | 26 => .string ⟨x.toArray⟩ | 28 => .int .u32 (u32v (sumOf x)) | 29 => .bool false | 30 => .bool false | _ => undef) (fun f v wx => Ext [] wr wx ∧ (f 27 = true → ∃ z, v 27 = .slice (some ⟨z, 0, none⟩) 1 1 ∧ Blk wx z 9 [str x])) (by kernel_rfl) (by kernel_rfl) ?hst0_11b ?h00_11b ?hst_11b ?hend_11b
          case hst0_11b =>
            rintro f v w w' ⟨hx, j3⟩ hx2
            refine ⟨hx.then0 hx2, fun h => ?_⟩
            obtain ⟨z, ez, hz⟩ := j3 h
            exact ⟨z, ez, Blk.keep hz hx2 List.not_mem_nil⟩
          case h00_11b =>
            exact ⟨Ext.refl _ _, fun h => (by cases h)⟩
          case hst_11b =>
            refine ⟨?f0_11b, ?f1_11b, ?f2_11b, ?f3_11b, ?f4_11b, ?f5_11b, ?f6_11b, ?f7_11b, ?f8_11b, ?f9_11b, ?f10_11b, ?f11_11b, ?f12_11b, ?f13_11b, ?f14_11b, ?f15_11b, ?f16_11b, ?f17_11b, ?f18_11b, ?f19_11b, ?f20_11b, ?f21_11b, ?f22_11b, ?f23_11b, ?f24_11b, ?f25_11b, ?f26_11b, ?f27_11b, ?f28_11b, ?f29_11b, ?f30_11b, trivial⟩
            case f0_11b =>
              intro f v g w' hJ hfi hb hd
              refine arm_u rfl ?_
              refine op_run rfl ?_
              generalize hA : mkAct _ _ g = A
              have h14 : A.tmps[14]?.getD undef = .string ⟨x.toArray⟩ := by rw [← hA]; exact mkAct_out2 _ _ _ _ _ rfl rfl
              refine step_val (v := .string ⟨x.toArray⟩) (w' := w') ?_ ⟨rfl, Ext.refl _ _⟩
              simp [execOp, h14, Result.andThen, go_sem]
            case f1_11b =>
              intro f v g w' hJ hfi hb hd
              refine arm_u rfl ?_
              refine op_run rfl ?_
              have e36 : g 36 = .string ⟨x.toArray⟩ := value_u (hd ⟨0, .data⟩ (by simp) rfl) rfl rfl
              generalize hA : mkAct _ _ g = A
              have h36 : A.tmps[36]?.getD undef = .string ⟨x.toArray⟩ := by rw [← hA, mkAct_in2 _ _ _ _ rfl rfl]; exact e36
              refine step_val (v := .int .i64 (x.length : Int)) (w' := w') ?_ ⟨rfl, Ext.refl _ _⟩
              simp [execOp, h36, Result.andThen, go_sem]
            case f2_11b =>
              intro f v g w' hJ hfi hb hd
              refine arm_u rfl ?_
              refine op_run rfl ?_
              have e37 : g 37 = .int .i64 (x.length : Int) := value_u (hd ⟨1, .data⟩ (by simp) rfl) rfl rfl
              generalize hA : mkAct _ _ g = A
              have h37 : A.tmps[37]?.getD undef = .int .i64 (x.length : Int) := by rw [← hA, mkAct_in2 _ _ _ _ rfl rfl]; exact e37
              refine step_val (v := .bool true) (w' := w') ?_ ⟨rfl, Ext.refl _ _⟩
              simp [execOp, e4, e400i, h37, Result.andThen, go_sem]
            case f3_11b =>
              intro f v g w' hJ hfi hb hd
              refine arm_u rfl ?_
              refine op_run rfl ?_
              have e38 : g 38 = .bool true := value_u (hd ⟨2, .data⟩ (by simp) rfl) rfl rfl
              generalize hA : mkAct _ _ g = A
              have h38 : A.tmps[38]?.getD undef = .bool true := by rw [← hA, mkAct_in2 _ _ _ _ rfl rfl]; exact e38
              refine step_val (v := .bool true) (w' := w') ?_ ⟨rfl, Ext.refl _ _⟩
              simp [execOp, h38, Result.andThen, go_sem]
            case f4_11b =>
              intro f v g w' hJ hfi hb hd
              refine arm_u rfl ?_
              have eg : g 39 = .bool true := value_u (hd ⟨3, .guard⟩ (by simp) rfl) rfl rfl
              refine op_yes rfl rfl rfl rfl eg ?_
              generalize hA : mkAct _ _ g = A
              have h13 : A.tmps[13]?.getD undef = .int .i64 (k : Int) := by rw [← hA]; exact mkAct_out2 _ _ _ _ _ rfl rfl
              refine step_val (v := .int .i64 (k : Int)) (w' := w') ?_ ⟨rfl, Ext.refl _ _⟩
              simp [execOp, h13, Result.andThen, go_sem]
            case f5_11b =>
              intro f v g w' hJ hfi hb hd
              refine arm_u rfl ?_
              have eg : g 39 = .bool true := value_u (hd ⟨3, .guard⟩ (by simp) rfl) rfl rfl
              refine op_yes rfl rfl rfl rfl eg ?_
              have e40 : g 40 = .int .i64 (k : Int) := value_u (hd ⟨4, .data⟩ (by simp) rfl) rfl rfl
              generalize hA : mkAct _ _ g = A
              have h40 : A.tmps[40]?.getD undef = .int .i64 (k : Int) := by rw [← hA, mkAct_in2 _ _ _ _ rfl rfl]; exact e40
              refine step_val (v := .int .i64 ((k : Int) + 1)) (w' := w') ?_ ⟨rfl, Ext.refl _ _⟩
              simp [execOp, h40, Result.andThen, go_sem]
              exact IntWalk.i64_in _ ⟨by omega, by omega⟩
            case f6_11b =>
              intro f v g w' hJ hfi hb hd
              refine arm_u rfl ?_
              have eg : g 39 = .bool true := value_u (hd ⟨3, .guard⟩ (by simp) rfl) rfl rfl
              refine op_yes rfl rfl rfl rfl eg ?_
              generalize hA : mkAct _ _ g = A
              have h10 : A.tmps[10]?.getD undef = .slice (some ⟨zg, zo, none⟩) nk zc := by rw [← hA]; exact mkAct_out2 _ _ _ _ _ rfl rfl
              refine step_val (v := .slice (some ⟨zg, zo, none⟩) nk zc) (w' := w') ?_ ⟨rfl, Ext.refl _ _⟩
              simp [execOp, h10, Result.andThen, go_sem]
            case f7_11b =>
              intro f v g w' hJ hfi hb hd
              refine arm_u rfl ?_
              have eg : g 39 = .bool true := value_u (hd ⟨3, .guard⟩ (by simp) rfl) rfl rfl
              refine op_yes rfl rfl rfl rfl eg ?_
              have e42 : g 42 = .slice (some ⟨zg, zo, none⟩) nk zc := value_u (hd ⟨6, .data⟩ (by simp) rfl) rfl rfl
              generalize hA : mkAct _ _ g = A
              have h42 : A.tmps[42]?.getD undef = .slice (some ⟨zg, zo, none⟩) nk zc := by rw [← hA, mkAct_in2 _ _ _ _ rfl rfl]; exact e42
              refine step_val (v := .int .i64 (nk : Int)) (w' := w') ?_ ⟨rfl, Ext.refl _ _⟩
              simp [execOp, h42, Result.andThen, go_sem]
            case f8_11b =>
              intro f v g w' hJ hfi hb hd
              refine arm_u rfl ?_
              have eg : g 39 = .bool true := value_u (hd ⟨3, .guard⟩ (by simp) rfl) rfl rfl
              refine op_yes rfl rfl rfl rfl eg ?_
              have e41 : g 41 = .int .i64 ((k : Int) + 1) := value_u (hd ⟨5, .data⟩ (by simp) rfl) rfl rfl
              have e43 : g 43 = .int .i64 (nk : Int) := value_u (hd ⟨7, .data⟩ (by simp) rfl) rfl rfl
              generalize hA : mkAct _ _ g = A
              have h41 : A.tmps[41]?.getD undef = .int .i64 ((k : Int) + 1) := by rw [← hA, mkAct_in2 _ _ _ _ rfl rfl]; exact e41
              have h43 : A.tmps[43]?.getD undef = .int .i64 (nk : Int) := by rw [← hA, mkAct_in2 _ _ _ _ rfl rfl]; exact e43
              refine step_val (v := .bool false) (w' := w') ?_ ⟨rfl, Ext.refl _ _⟩
              simp [execOp, el, h41, h43, Result.andThen, go_sem]
            case f9_11b =>
              intro f v g w' hJ hfi hb hd
              refine arm_u rfl ?_
              refine op_run rfl ?_
              have e39 : g 39 = .bool true := value_u (hd ⟨3, .data⟩ (by simp) rfl) rfl rfl
              have e44 : g 44 = .bool false := value_u (hd ⟨8, .data⟩ (by simp) rfl) rfl rfl
              generalize hA : mkAct _ _ g = A
              have h39 : A.tmps[39]?.getD undef = .bool true := by rw [← hA, mkAct_in2 _ _ _ _ rfl rfl]; exact e39
              have h44 : A.tmps[44]?.getD undef = .bool false := by rw [← hA, mkAct_in2 _ _ _ _ rfl rfl]; exact e44
              refine step_val (v := .bool false) (w' := w') ?_ ⟨rfl, Ext.refl _ _⟩
              simp [execOp, h39, h44, Result.andThen, go_sem]
            case f10_11b =>
              intro f v g w' hJ hfi hb hd
              refine arm_u rfl ?_
              refine op_run rfl ?_
              have e45 : g 45 = .bool false := value_u (hd ⟨9, .data⟩ (by simp) rfl) rfl rfl
              generalize hA : mkAct _ _ g = A
              have h45 : A.tmps[45]?.getD undef = .bool false := by rw [← hA, mkAct_in2 _ _ _ _ rfl rfl]; exact e45
              refine step_val (v := .bool false) (w' := w') ?_ ⟨rfl, Ext.refl _ _⟩
              simp [execOp, h45, Result.andThen, go_sem]
            case f11_11b =>
              intro f v g w' hJ hfi hb hd
              refine arm_u rfl ?_
              have eg : g 46 = .bool false := value_u (hd ⟨10, .guard⟩ (by simp) rfl) rfl rfl
              refine op_yes rfl rfl rfl rfl eg ?_
              generalize hA : mkAct _ _ g = A
              have h14 : A.tmps[14]?.getD undef = .string ⟨x.toArray⟩ := by rw [← hA]; exact mkAct_out2 _ _ _ _ _ rfl rfl
              refine step_val (v := .string ⟨x.toArray⟩) (w' := w') ?_ ⟨rfl, Ext.refl _ _⟩
              simp [execOp, h14, Result.andThen, go_sem]
            case f12_11b =>
              intro f v g w' hJ hfi hb hd
              refine arm_u rfl ?_
              have eg : g 46 = .bool false := value_u (hd ⟨10, .guard⟩ (by simp) rfl) rfl rfl
              refine op_yes rfl rfl rfl rfl eg ?_
              have e47 : g 47 = .string ⟨x.toArray⟩ := value_u (hd ⟨11, .data⟩ (by simp) rfl) rfl rfl
              generalize hA : mkAct _ _ g = A
              have h47 : A.tmps[47]?.getD undef = .string ⟨x.toArray⟩ := by rw [← hA, mkAct_in2 _ _ _ _ rfl rfl]; exact e47
              refine step_val (v := .int .i64 (x.length : Int)) (w' := w') ?_ ⟨rfl, Ext.refl _ _⟩
              simp [execOp, h47, Result.andThen, go_sem]
            case f13_11b =>
              intro f v g w' hJ hfi hb hd
              refine arm_u rfl ?_
              have eg : g 46 = .bool false := value_u (hd ⟨10, .guard⟩ (by simp) rfl) rfl rfl
              refine op_yes rfl rfl rfl rfl eg ?_
              have e48 : g 48 = .int .i64 (x.length : Int) := value_u (hd ⟨12, .data⟩ (by simp) rfl) rfl rfl
              generalize hA : mkAct _ _ g = A
              have h48 : A.tmps[48]?.getD undef = .int .i64 (x.length : Int) := by rw [← hA, mkAct_in2 _ _ _ _ rfl rfl]; exact e48
              refine step_val (v := .bool false) (w' := w') ?_ ⟨rfl, Ext.refl _ _⟩
              simp [execOp, e0, hne, h48, Result.andThen, go_sem]
            case f14_11b =>
              intro f v g w' hJ hfi hb hd
              refine arm_u rfl ?_
              refine op_run rfl ?_
              have e46 : g 46 = .bool false := value_u (hd ⟨10, .data⟩ (by simp) rfl) rfl rfl
              have e49 : g 49 = .bool false := value_u (hd ⟨13, .data⟩ (by simp) rfl) rfl rfl
              generalize hA : mkAct _ _ g = A
              have h46 : A.tmps[46]?.getD undef = .bool false := by rw [← hA, mkAct_in2 _ _ _ _ rfl rfl]; exact e46
              have h49 : A.tmps[49]?.getD undef = .bool false := by rw [← hA, mkAct_in2 _ _ _ _ rfl rfl]; exact e49
              refine step_val (v := .bool false) (w' := w') ?_ ⟨rfl, Ext.refl _ _⟩
              simp [execOp, h46, h49, Result.andThen, go_sem]
            case f15_11b =>
              intro f v g w' hJ hfi hb hd
              refine arm_u rfl ?_
              refine op_run rfl ?_
              have e50 : g 50 = .bool false := value_u (hd ⟨14, .data⟩ (by simp) rfl) rfl rfl
              generalize hA : mkAct _ _ g = A
              have h50 : A.tmps[50]?.getD undef = .bool false := by rw [← hA, mkAct_in2 _ _ _ _ rfl rfl]; exact e50
              refine step_val (v := .bool false) (w' := w') ?_ ⟨rfl, Ext.refl _ _⟩
              simp [execOp, h50, Result.andThen, go_sem]
            case f16_11b =>
              intro f v g w' hJ hfi hb hd
              refine arm_u rfl ?_
              have eg : g 51 = .bool false := value_u (hd ⟨15, .guard⟩ (by simp) rfl) rfl rfl
              refine op_yes rfl rfl rfl rfl eg ?_
              generalize hA : mkAct _ _ g = A
              have h14 : A.tmps[14]?.getD undef = .string ⟨x.toArray⟩ := by rw [← hA]; exact mkAct_out2 _ _ _ _ _ rfl rfl
              refine step_val (v := .string ⟨x.toArray⟩) (w' := w') ?_ ⟨rfl, Ext.refl _ _⟩
              simp [execOp, h14, Result.andThen, go_sem]
            case f17_11b =>
              intro f v g w' hJ hfi hb hd
              refine arm_u rfl ?_
              have eg : g 51 = .bool false := value_u (hd ⟨15, .guard⟩ (by simp) rfl) rfl rfl
              refine op_yes rfl rfl rfl rfl eg ?_
              have e52 : g 52 = .string ⟨x.toArray⟩ := value_u (hd ⟨16, .data⟩ (by simp) rfl) rfl rfl
              generalize hA : mkAct _ _ g = A
              have h52 : A.tmps[52]?.getD undef = .string ⟨x.toArray⟩ := by rw [← hA, mkAct_in2 _ _ _ _ rfl rfl]; exact e52
              refine step_val (v := .int .i64 (x.length : Int)) (w' := w') ?_ ⟨rfl, Ext.refl _ _⟩
              simp [execOp, h52, Result.andThen, go_sem]
            case f18_11b =>
              intro f v g w' hJ hfi hb hd
              refine arm_u rfl ?_
              have eg : g 51 = .bool false := value_u (hd ⟨15, .guard⟩ (by simp) rfl) rfl rfl
              refine op_yes rfl rfl rfl rfl eg ?_
              have e53 : g 53 = .int .i64 (x.length : Int) := value_u (hd ⟨17, .data⟩ (by simp) rfl) rfl rfl
              generalize hA : mkAct _ _ g = A
              have h53 : A.tmps[53]?.getD undef = .int .i64 (x.length : Int) := by rw [← hA, mkAct_in2 _ _ _ _ rfl rfl]; exact e53
              refine step_val (v := .bool false) (w' := w') ?_ ⟨rfl, Ext.refl _ _⟩
              simp [execOp, eg, h53, Result.andThen, go_sem]
              all_goals (first | exact eg | omega)
            case f19_11b =>
              intro f v g w' hJ hfi hb hd
              refine arm_u rfl ?_
              refine op_run rfl ?_
              have e51 : g 51 = .bool false := value_u (hd ⟨15, .data⟩ (by simp) rfl) rfl rfl
              have e54 : g 54 = .bool false := value_u (hd ⟨18, .data⟩ (by simp) rfl) rfl rfl
              generalize hA : mkAct _ _ g = A
              have h51 : A.tmps[51]?.getD undef = .bool false := by rw [← hA, mkAct_in2 _ _ _ _ rfl rfl]; exact e51
              have h54 : A.tmps[54]?.getD undef = .bool false := by rw [← hA, mkAct_in2 _ _ _ _ rfl rfl]; exact e54
              refine step_val (v := .bool false) (w' := w') ?_ ⟨rfl, Ext.refl _ _⟩
              simp [execOp, h51, h54, Result.andThen, go_sem]
            case f20_11b =>
              intro f v g w' hJ hfi hb hd
              refine arm_u rfl ?_
              refine op_run rfl ?_
              have e55 : g 55 = .bool false := value_u (hd ⟨19, .data⟩ (by simp) rfl) rfl rfl
              generalize hA : mkAct _ _ g = A
              have h55 : A.tmps[55]?.getD undef = .bool false := by rw [← hA, mkAct_in2 _ _ _ _ rfl rfl]; exact e55
              refine step_val (v := .bool false) (w' := w') ?_ ⟨rfl, Ext.refl _ _⟩
              simp [execOp, h55, Result.andThen, go_sem]
            case f21_11b =>
              intro f v g w' hJ hfi hb hd
              refine arm_u rfl ?_
              have eg : g 56 = .bool false := value_u (hd ⟨20, .guard⟩ (by simp) rfl) rfl rfl
              refine op_yes rfl rfl rfl rfl eg ?_
              generalize hA : mkAct _ _ g = A
              have h11 : A.tmps[11]?.getD undef = .pointer (some ⟨Lb, 0, none⟩) := by rw [← hA]; exact mkAct_out2 _ _ _ _ _ rfl rfl
              refine step_val (v := .pointer (some ⟨Lb, 3, none⟩)) (w' := w') ?_ ⟨rfl, Ext.refl _ _⟩
              simp [execOp, h11, Result.andThen, go_sem]
            case f22_11b =>
              intro f v g w' hJ hfi hb hd
              refine arm_u rfl ?_
              have eg : g 56 = .bool false := value_u (hd ⟨20, .guard⟩ (by simp) rfl) rfl rfl
              refine op_yes rfl rfl rfl rfl eg ?_
              have e57 : g 57 = .pointer (some ⟨Lb, 3, none⟩) := value_u (hd ⟨21, .data⟩ (by simp) rfl) rfl rfl
              generalize hA : mkAct _ _ g = A
              have h57 : A.tmps[57]?.getD undef = .pointer (some ⟨Lb, 3, none⟩) := by rw [← hA, mkAct_in2 _ _ _ _ rfl rfl]; exact e57
              have c := (cm w' hJ.1).2.2.2
              refine step_val (v := .slice (some ⟨g0, so, none⟩) nk sc) (w' := w') ?_ ⟨rfl, Ext.refl _ _⟩
              simp [execOp, h57, c, Result.andThen, go_sem]
            case f23_11b =>
              intro f v g w' hJ hfi hb hd
              refine arm_u rfl ?_
              have eg : g 56 = .bool false := value_u (hd ⟨20, .guard⟩ (by simp) rfl) rfl rfl
              refine op_yes rfl rfl rfl rfl eg ?_
              generalize hA : mkAct _ _ g = A
              have h13 : A.tmps[13]?.getD undef = .int .i64 (k : Int) := by rw [← hA]; exact mkAct_out2 _ _ _ _ _ rfl rfl
              refine step_val (v := .int .i64 (k : Int)) (w' := w') ?_ ⟨rfl, Ext.refl _ _⟩
              simp [execOp, h13, Result.andThen, go_sem]
            case f24_11b =>
              intro f v g w' hJ hfi hb hd
              refine arm_u rfl ?_
              have eg : g 56 = .bool false := value_u (hd ⟨20, .guard⟩ (by simp) rfl) rfl rfl
              refine op_yes rfl rfl rfl rfl eg ?_
              have e58 : g 58 = .slice (some ⟨g0, so, none⟩) nk sc := value_u (hd ⟨22, .data⟩ (by simp) rfl) rfl rfl
              have e59 : g 59 = .int .i64 (k : Int) := value_u (hd ⟨23, .data⟩ (by simp) rfl) rfl rfl
              generalize hA : mkAct _ _ g = A
              have h58 : A.tmps[58]?.getD undef = .slice (some ⟨g0, so, none⟩) nk sc := by rw [← hA, mkAct_in2 _ _ _ _ rfl rfl]; exact e58
              have h59 : A.tmps[59]?.getD undef = .int .i64 (k : Int) := by rw [← hA, mkAct_in2 _ _ _ _ rfl rfl]; exact e59
              refine step_val (v := .pointer (some ⟨g0, so + k, none⟩)) (w' := w') ?_ ⟨rfl, Ext.refl _ _⟩
              simp [execOp, hkl, h58, h59, Result.andThen, go_sem]
            case f25_11b =>
              intro f v g w' hJ hfi hb hd
              refine arm_u rfl ?_
              have eg : g 56 = .bool false := value_u (hd ⟨20, .guard⟩ (by simp) rfl) rfl rfl
              refine op_yes rfl rfl rfl rfl eg ?_
              have e60 : g 60 = .pointer (some ⟨g0, so + k, none⟩) := value_u (hd ⟨24, .data⟩ (by simp) rfl) rfl rfl
              generalize hA : mkAct _ _ g = A
              have h60 : A.tmps[60]?.getD undef = .pointer (some ⟨g0, so + k, none⟩) := by rw [← hA, mkAct_in2 _ _ _ _ rfl rfl]; exact e60
              have c := cs w' hJ.1
              refine step_val (v := .int .u32 (u32v (sumOf x))) (w' := w') ?_ ⟨rfl, Ext.refl _ _⟩
              simp [execOp, h60, c, Result.andThen, go_sem]
            case f26_11b =>
              intro f v g w' hJ hfi hb hd
              refine arm_u rfl ?_
              have eg : g 56 = .bool false := value_u (hd ⟨20, .guard⟩ (by simp) rfl) rfl rfl
              refine op_yes rfl rfl rfl rfl eg ?_
              generalize hA : mkAct _ _ g = A
              have h14 : A.tmps[14]?.getD undef = .string ⟨x.toArray⟩ := by rw [← hA]; exact mkAct_out2 _ _ _ _ _ rfl rfl
              refine step_val (v := .string ⟨x.toArray⟩) (w' := w') ?_ ⟨rfl, Ext.refl _ _⟩
              simp [execOp, h14, Result.andThen, go_sem]
            case f27_11b =>
              intro f v g w' hJ hfi hb hd
              refine arms_u rfl ?_
              have eg : g 56 = .bool false := value_u (hd ⟨20, .guard⟩ (by simp) rfl) rfl rfl
              refine op_yes rfl rfl rfl rfl eg ?_
              have e62 : g 62 = .string ⟨x.toArray⟩ := value_u (hd ⟨26, .data⟩ (by simp) rfl) rfl rfl
              generalize hA : mkAct _ _ g = A
              have h62 : A.tmps[62]?.getD undef = .string ⟨x.toArray⟩ := by rw [← hA, mkAct_in2 _ _ _ _ rfl rfl]; exact e62
              have hxa : Ext [] w' (w'.alloc (.cells #[.string ⟨x.toArray⟩] 9)) := (Ext.refl _ _).alloc _
              refine step_val (v := .slice (some ⟨w'.heap.size, 0, none⟩) 1 1) (w' := w'.alloc (.cells #[.string ⟨x.toArray⟩] 9)) ?_ ⟨_, rfl, hJ.1.then0 hxa, fun _ => ⟨w'.heap.size, setU_same _ _ _, Blk.new w' 9 #[str x]⟩⟩
              simp [execOp, h62, Result.andThen, go_sem]
            case f28_11b =>
              intro f v g w' hJ hfi hb hd
              refine arm_u rfl ?_
              have eg : g 56 = .bool false := value_u (hd ⟨20, .guard⟩ (by simp) rfl) rfl rfl
              refine op_yes rfl rfl rfl rfl eg ?_
              obtain ⟨hf63, e63⟩ := special_u (hd ⟨27, .data⟩ (by simp) rfl) rfl rfl
              replace e63 : g 63 = v 27 := e63
              obtain ⟨z, ez, hz⟩ := hJ.2 hf63
              rw [ez] at e63
              generalize hA : mkAct _ _ g = A
              have h63 : A.tmps[63]?.getD undef = .slice (some ⟨z, 0, none⟩) 1 1 := by rw [← hA, mkAct_in2 _ _ _ _ rfl rfl]; exact e63
              refine float_u (fun K hK => ?_)
              go_simp
              refine (ofStr_any x w' z hz (by omega)).mono ?_
              rintro e w2 ⟨rfl, hx2⟩
              exact hK w2 hx2
            case f29_11b =>
              intro f v g w' hJ hfi hb hd
              refine arm_u rfl ?_
              have eg : g 56 = .bool false := value_u (hd ⟨20, .guard⟩ (by simp) rfl) rfl rfl
              refine op_yes rfl rfl rfl rfl eg ?_
              have e61 : g 61 = .int .u32 (u32v (sumOf x)) := value_u (hd ⟨25, .data⟩ (by simp) rfl) rfl rfl
              have e64 : g 64 = .int .u32 (u32v (sumOf x)) := value_u (hd ⟨28, .data⟩ (by simp) rfl) rfl rfl
              generalize hA : mkAct _ _ g = A
              have h61 : A.tmps[61]?.getD undef = .int .u32 (u32v (sumOf x)) := by rw [← hA, mkAct_in2 _ _ _ _ rfl rfl]; exact e61
              have h64 : A.tmps[64]?.getD undef = .int .u32 (u32v (sumOf x)) := by rw [← hA, mkAct_in2 _ _ _ _ rfl rfl]; exact e64
              refine step_val (v := .bool false) (w' := w') ?_ ⟨rfl, Ext.refl _ _⟩
              simp [execOp, h61, h64, Result.andThen, go_sem]
            case f30_11b =>
              intro f v g w' hJ hfi hb hd
              refine arm_u rfl ?_
              refine op_run rfl ?_
              have e56 : g 56 = .bool false := value_u (hd ⟨20, .data⟩ (by simp) rfl) rfl rfl
              have e65 : g 65 = .bool false := value_u (hd ⟨29, .data⟩ (by simp) rfl) rfl rfl
              generalize hA : mkAct _ _ g = A
              have h56 : A.tmps[56]?.getD undef = .bool false := by rw [← hA, mkAct_in2 _ _ _ _ rfl rfl]; exact e56
              have h65 : A.tmps[65]?.getD undef = .bool false := by rw [← hA, mkAct_in2 _ _ _ _ rfl rfl]; exact e65
              refine step_val (v := .bool false) (w' := w') ?_ ⟨rfl, Ext.refl _ _⟩
              simp [execOp, h56, h65, Result.andThen, go_sem]
          intro f v g wn hJ hk
          have e66 : g 66 = .bool false := value_u (hk 30 (by decide)) rfl rfl
          have hxe := hJ.1
          clear hk hJ cm cs
          unfold mkAct; simp only [List.zipIdx_cons, List.zipIdx_nil, List.map_cons, List.map_nil, Nat.zero_add, Nat.reduceAdd, List.contains_cons, List.contains_nil, Nat.reduceBEq, Bool.or_false, Bool.or_true, ↓reduceIte, Bool.false_eq_true]
          rw [e66]
          go_wp2_with fail
          go_meet
          exact ⟨rfl, hxe⟩
      case rest =>
        obtain ⟨rfl, HJ⟩ := hcut
        have hap : (⟨dv.toArray⟩ : ByteArray) ++ ⟨x.toArray⟩ = ⟨(dv ++ x).toArray⟩ := by rw [ByteArray.mk_append_mk]
        clear cs cm
        go_wp2
        go_roundw
        case rel =>
          refine ⟨k + 1, by rw [htk.out], by go_num, by omega, hX.out.then0 HJ.out⟩
        case measure => simp [intOf]; omega
    · obtain rfl : k = nk := by omega
      have hfl : (ps.take k).flatten = tx := by rw [List.take_of_length_le (by have := HNk.out; omega), HPs.out]; exact cutL_flat tx
      rw [hfl]
      have HX6 := Hid.of (HX5.out.then0 hX.out)
      have l0 := (Blk.c (Blk.keep HL5.out hX.out (by simp)) 0 : wr.cell? ⟨Lb, 0, none⟩ = some (.int .i64 ix))
      have l1 := (Blk.c (Blk.keep HL5.out hX.out (by simp)) 1 : wr.cell? ⟨Lb, 1, none⟩ = some (.int .i64 tm))
      have l2 := (Blk.c (Blk.keep HL5.out hX.out (by simp)) 2 : wr.cell? ⟨Lb, 2, none⟩ = some (.int .i64 (nn % 4096)))
      have l3 := (Blk.c (Blk.keep HL5.out hX.out (by simp)) 3 : wr.cell? ⟨Lb, 3, none⟩ = some (.slice sa k sc))
      obtain ⟨Ob, hOb⟩ : ∃ z, z = wr.heap.size := ⟨_, rfl⟩
      obtain ⟨w7, hw7⟩ : ∃ w, w = wr.alloc (.cells #[.int .i64 ix, .int .i64 tm, .int .i64 (nn % 4096 + 1), .slice sa k sc] 42) := ⟨_, rfl⟩
      have hxa : Ext [] wr w7 := by rw [hw7]; exact (Ext.refl [] wr).alloc _
      have HO7 : Hid (Blk w7 Ob 42 [.int .i64 ix, .int .i64 tm, .int .i64 (nn % 4096 + 1), .slice sa k sc]) := Hid.of (by rw [hw7]; exact Blk.newg hOb.symm)
      have HL7 := Hid.of (Blk.keep HL5.out (hX.out.then0 hxa) (by simp))
      have HX7 := Hid.of (HX6.out.then0 hxa)
      have HS7 : Hid (Rd w7 1 (.slice sa k sc) k ((ps.map sumOf).map u32c)) := Hid.of (HS5.out.keep (hX.out.then0 hxa) (by simp))
      clear hfl hxa hX
      go_upto_region 17 with fail
      try rw [← hOb]
      try rw [← hw7]
      clear hw7 hOb l0 l1 l2 l3
      have hlen9 : (ps.map sumOf).length = k := by rw [List.length_map]; exact HNk.out.symm
      have hsu : ∀ w', Ext [] w7 w' → Sums w' (.slice sa k sc) (ps.map sumOf) := fun w' hx => by unfold Sums; rw [hlen9]; exact HS7.out.keep hx (by simp)
      have cm := fun w' (hx : Ext [] w7 w') => Blk4 (Blk.keep HL7.out hx (by simp))
      have cob := fun w' (hx : Ext [] w7 w') => Blk4 (Blk.keep HO7.out hx (by simp))
      have cs1 : ∀ w', Ext [] w7 w' → Calls Try.prog 21 #[.agg #[.int .i64 ix, .int .i64 tm, .int .i64 (nn % 4096), .slice sa k sc], .agg #[.int .i64 ix, .int .i64 tm, .int .i64 (nn % 4096), .slice sa k sc]] w' fun e w'' => e = .returned (.bool true) ∧ Ext [] w' w'' := fun w' hx => by
        have := same_any ⟨ix, tm, nn % 4096, ps.map sumOf⟩ ⟨ix, tm, nn % 4096, ps.map sumOf⟩ _ _ w' (hsu w' hx) (hsu w' hx)
        rw [decide_eq_true rfl] at this
        exact this
      have cs2 : ∀ w', Ext [] w7 w' → Calls Try.prog 21 #[.agg #[.int .i64 ix, .int .i64 tm, .int .i64 (nn % 4096), .slice sa k sc], .agg #[.int .i64 ix, .int .i64 tm, .int .i64 (nn % 4096 + 1), .slice sa k sc]] w' fun e w'' => e = .returned (.bool false) ∧ Ext [] w' w'' := fun w' hx => by
        have := same_any ⟨ix, tm, nn % 4096, ps.map sumOf⟩ ⟨ix, tm, nn % 4096 + 1, ps.map sumOf⟩ _ _ w' (hsu w' hx) (hsu w' hx)
        rw [decide_eq_false (by simp; omega)] at this
        exact this
      have hofx : ∀ w', Calls Try.prog 20 #[.int .i64 (bits .xor .i64 ix 1), .int .i64 tm, str tx] w' (LsNew w' (ofL (bits .xor .i64 ix 1) tm tx)) := fun w' => ofl_any _ tm tx w' (by have := HTl.out; omega)
      have hxn := xor1_ne ix
      have hzi : (ofL (bits .xor .i64 ix 1) tm tx).idx = bits .xor .i64 ix 1 ∧ (ofL (bits .xor .i64 ix 1) tm tx).term = tm := ⟨rfl, rfl⟩
      generalize ofL (bits .xor .i64 ix 1) tm tx = lz at hofx hzi
      have cs3 : ∀ w' zv, Ext [] w7 w' → Sums w' zv lz.sums → Calls Try.prog 21 #[.agg #[.int .i64 ix, .int .i64 tm, .int .i64 (nn % 4096), .slice sa k sc], .agg #[.int .i64 lz.idx, .int .i64 lz.term, .int .i64 lz.bytes, zv]] w' fun e w'' => e = .returned (.bool false) ∧ Ext [] w' w'' := fun w' zv hx hz => by
        have := same_any ⟨ix, tm, nn % 4096, ps.map sumOf⟩ lz _ zv w' (hsu w' hx) hz
        rw [decide_eq_false (by intro e; have := congrArg Ls.idx e; rw [hzi.1] at this; exact hxn this.symm)] at this
        exact this
      clear hlen9 hsu hzi hxn HS7 HL7 HO7
      refine wp_region_u [76, 77, 78, 79, 80, 81, 82, 83, 84, 85, 86, 87, 88, 89, 90, 91, 92, 93, 94, 95, 96, 97, 98, 99, 100, 101, 102, 103, 104, 105, 106, 107, 108, 109, 110, 111, 112, 113, 114, 115, 116, 117, 118, 119, 120, 121, 122, 123, 124, 125, 8] [46] (fun n => match n with | 0 => (str tx) | 1 => (str tx) | 2 => .bool true | 3 => .bool true | 4 => .pointer (some ⟨Lb, 3, none⟩) | 5 => .slice sa k sc | 6 => .int .i64 (k : Nat) | 7 => .slice za k zc | 8 => .int .i64 (k : Nat) | 9 => .bool true | 10 => .bool true | 11 => .bool true | 12 => .pointer (some ⟨Lb, 0, none⟩) | 13 => .int .i64 ix | 14 => .int .i64 ix | 15 => .bool true | 16 => .bool true | 17 => .bool true | 18 => .pointer (some ⟨Lb, 1, none⟩) | 19 => .int .i64 tm | 20 => .int .i64 tm | 21 => .bool true | 22 => .bool true | 23 => .bool true | 24 => .pointer (some ⟨Lb, 2, none⟩) | 25 => .int .i64 (nn % 4096) | 26 => .int .i64 (nn % 4096) | 27 => .bool true | 28 => .bool true | 29 => .bool true | 30 => .agg #[.int .i64 ix, .int .i64 tm, .int .i64 (nn % 4096), .slice sa k sc] | 31 => .agg #[.int .i64 ix, .int .i64 tm, .int .i64 (nn % 4096), .slice sa k sc] | 32 => .bool true | 33 => .bool true | 34 => .bool true | 35 => .agg #[.int .i64 ix, .int .i64 tm, .int .i64 (nn % 4096), .slice sa k sc] | 36 => .agg #[.int .i64 ix, .int .i64 tm, .int .i64 (nn % 4096 + 1), .slice sa k sc] | 37 => .bool false | 38 => .bool true | 39 => .bool true | 40 => .bool true | 41 => .agg #[.int .i64 ix, .int .i64 tm, .int .i64 (nn % 4096), .slice sa k sc] | 42 => .int .i64 ix | 43 => .int .i64 (bits .xor .i64 ix 1) | 44 => .int .i64 tm | 45 => (str tx) | 47 => .bool false | 48 => .bool true | 49 => .bool true | 50 => .bool true | _ => undef) (fun f v wx => Ext [] w7 wx ∧ (f 46 = true → ∃ ya yc, v 46 = .agg #[.int .i64 lz.idx, .int .i64 lz.term, .int .i64 lz.bytes, .slice ya lz.sums.length yc] ∧ Sums wx (.slice ya lz.sums.length yc) lz.sums)) (by kernel_rfl) (by kernel_rfl) ?hst0_17 ?h00_17 ?hst_17 ?hend_17
      case hst0_17 =>
        rintro f v w w' ⟨hx, j3⟩ hx2
        refine ⟨hx.then0 hx2, fun h => ?_⟩
        obtain ⟨ya, yc, ez, hz⟩ := j3 h
        exact ⟨ya, yc, ez, hz.keep0 hx2⟩
      case h00_17 =>
        exact ⟨Ext.refl _ _, fun h => (by cases h)⟩
      case hst_17 =>
        refine ⟨?f0_17, ?f1_17, ?f2_17, ?f3_17, ?f4_17, ?f5_17, ?f6_17, ?f7_17, ?f8_17, ?f9_17, ?f10_17, ?f11_17, ?f12_17, ?f13_17, ?f14_17, ?f15_17, ?f16_17, ?f17_17, ?f18_17, ?f19_17, ?f20_17, ?f21_17, ?f22_17, ?f23_17, ?f24_17, ?f25_17, ?f26_17, ?f27_17, ?f28_17, ?f29_17, ?f30_17, ?f31_17, ?f32_17, ?f33_17, ?f34_17, ?f35_17, ?f36_17, ?f37_17, ?f38_17, ?f39_17, ?f40_17, ?f41_17, ?f42_17, ?f43_17, ?f44_17, ?f45_17, ?f46_17, ?f47_17, ?f48_17, ?f49_17, ?f50_17, trivial⟩
        case f0_17 =>
          intro f v g w' hJ hfi hb hd
          refine arm_u rfl ?_
          refine op_run rfl ?_
          generalize hA : mkAct _ _ g = A
          have h12 : A.tmps[12]?.getD undef = (str tx) := by rw [← hA]; exact mkAct_out2 _ _ _ _ _ rfl rfl
          refine step_val (v := (str tx)) (w' := w') ?_ ⟨rfl, Ext.refl _ _⟩
          simp [execOp, h12, Result.andThen, go_sem]
        case f1_17 =>
          intro f v g w' hJ hfi hb hd
          refine arm_u rfl ?_
          refine op_run rfl ?_
          generalize hA : mkAct _ _ g = A
          have h9 : A.tmps[9]?.getD undef = (str tx) := by rw [← hA]; exact mkAct_out2 _ _ _ _ _ rfl rfl
          refine step_val (v := (str tx)) (w' := w') ?_ ⟨rfl, Ext.refl _ _⟩
          simp [execOp, h9, Result.andThen, go_sem]
        case f2_17 =>
          intro f v g w' hJ hfi hb hd
          refine arm_u rfl ?_
          refine op_run rfl ?_
          have e76 : g 76 = (str tx) := value_u (hd ⟨0, .data⟩ (by simp) rfl) rfl rfl
          have e77 : g 77 = (str tx) := value_u (hd ⟨1, .data⟩ (by simp) rfl) rfl rfl
          generalize hA : mkAct _ _ g = A
          have h76 : A.tmps[76]?.getD undef = (str tx) := by rw [← hA, mkAct_in2 _ _ _ _ rfl rfl]; exact e76
          have h77 : A.tmps[77]?.getD undef = (str tx) := by rw [← hA, mkAct_in2 _ _ _ _ rfl rfl]; exact e77
          refine step_val (v := .bool true) (w' := w') ?_ ⟨rfl, Ext.refl _ _⟩
          simp [execOp, h76, h77, Result.andThen, go_sem]
        case f3_17 =>
          intro f v g w' hJ hfi hb hd
          refine arm_u rfl ?_
          refine op_run rfl ?_
          have e78 : g 78 = .bool true := value_u (hd ⟨2, .data⟩ (by simp) rfl) rfl rfl
          generalize hA : mkAct _ _ g = A
          have h78 : A.tmps[78]?.getD undef = .bool true := by rw [← hA, mkAct_in2 _ _ _ _ rfl rfl]; exact e78
          refine step_val (v := .bool true) (w' := w') ?_ ⟨rfl, Ext.refl _ _⟩
          simp [execOp, h78, Result.andThen, go_sem]
        case f4_17 =>
          intro f v g w' hJ hfi hb hd
          refine arm_u rfl ?_
          have eg : g 79 = .bool true := value_u (hd ⟨3, .guard⟩ (by simp) rfl) rfl rfl
          refine op_yes rfl rfl rfl rfl eg ?_
          generalize hA : mkAct _ _ g = A
          have h11 : A.tmps[11]?.getD undef = .pointer (some ⟨Lb, 0, none⟩) := by rw [← hA]; exact mkAct_out2 _ _ _ _ _ rfl rfl
          refine step_val (v := .pointer (some ⟨Lb, 3, none⟩)) (w' := w') ?_ ⟨rfl, Ext.refl _ _⟩
          simp [execOp, h11, Result.andThen, go_sem]
        case f5_17 =>
          intro f v g w' hJ hfi hb hd
          refine arm_u rfl ?_
          have eg : g 79 = .bool true := value_u (hd ⟨3, .guard⟩ (by simp) rfl) rfl rfl
          refine op_yes rfl rfl rfl rfl eg ?_
          have e80 : g 80 = .pointer (some ⟨Lb, 3, none⟩) := value_u (hd ⟨4, .data⟩ (by simp) rfl) rfl rfl
          generalize hA : mkAct _ _ g = A
          have h80 : A.tmps[80]?.getD undef = .pointer (some ⟨Lb, 3, none⟩) := by rw [← hA, mkAct_in2 _ _ _ _ rfl rfl]; exact e80
          have c := (cm w' hJ.1).2.2.2
          refine step_val (v := .slice sa k sc) (w' := w') ?_ ⟨rfl, Ext.refl _ _⟩
          simp [execOp, h80, c, Result.andThen, go_sem]
        case f6_17 =>
          intro f v g w' hJ hfi hb hd
          refine arm_u rfl ?_
          have eg : g 79 = .bool true := value_u (hd ⟨3, .guard⟩ (by simp) rfl) rfl rfl
          refine op_yes rfl rfl rfl rfl eg ?_
          have e81 : g 81 = .slice sa k sc := value_u (hd ⟨5, .data⟩ (by simp) rfl) rfl rfl
          generalize hA : mkAct _ _ g = A
          have h81 : A.tmps[81]?.getD undef = .slice sa k sc := by rw [← hA, mkAct_in2 _ _ _ _ rfl rfl]; exact e81
          refine step_val (v := .int .i64 (k : Nat)) (w' := w') ?_ ⟨rfl, Ext.refl _ _⟩
          simp [execOp, h81, Result.andThen, go_sem]
        case f7_17 =>
          intro f v g w' hJ hfi hb hd
          refine arm_u rfl ?_
          have eg : g 79 = .bool true := value_u (hd ⟨3, .guard⟩ (by simp) rfl) rfl rfl
          refine op_yes rfl rfl rfl rfl eg ?_
          generalize hA : mkAct _ _ g = A
          have h10 : A.tmps[10]?.getD undef = .slice za k zc := by rw [← hA]; exact mkAct_out2 _ _ _ _ _ rfl rfl
          refine step_val (v := .slice za k zc) (w' := w') ?_ ⟨rfl, Ext.refl _ _⟩
          simp [execOp, h10, Result.andThen, go_sem]
        case f8_17 =>
          intro f v g w' hJ hfi hb hd
          refine arm_u rfl ?_
          have eg : g 79 = .bool true := value_u (hd ⟨3, .guard⟩ (by simp) rfl) rfl rfl
          refine op_yes rfl rfl rfl rfl eg ?_
          have e83 : g 83 = .slice za k zc := value_u (hd ⟨7, .data⟩ (by simp) rfl) rfl rfl
          generalize hA : mkAct _ _ g = A
          have h83 : A.tmps[83]?.getD undef = .slice za k zc := by rw [← hA, mkAct_in2 _ _ _ _ rfl rfl]; exact e83
          refine step_val (v := .int .i64 (k : Nat)) (w' := w') ?_ ⟨rfl, Ext.refl _ _⟩
          simp [execOp, h83, Result.andThen, go_sem]
        case f9_17 =>
          intro f v g w' hJ hfi hb hd
          refine arm_u rfl ?_
          have eg : g 79 = .bool true := value_u (hd ⟨3, .guard⟩ (by simp) rfl) rfl rfl
          refine op_yes rfl rfl rfl rfl eg ?_
          have e82 : g 82 = .int .i64 (k : Nat) := value_u (hd ⟨6, .data⟩ (by simp) rfl) rfl rfl
          have e84 : g 84 = .int .i64 (k : Nat) := value_u (hd ⟨8, .data⟩ (by simp) rfl) rfl rfl
          generalize hA : mkAct _ _ g = A
          have h82 : A.tmps[82]?.getD undef = .int .i64 (k : Nat) := by rw [← hA, mkAct_in2 _ _ _ _ rfl rfl]; exact e82
          have h84 : A.tmps[84]?.getD undef = .int .i64 (k : Nat) := by rw [← hA, mkAct_in2 _ _ _ _ rfl rfl]; exact e84
          refine step_val (v := .bool true) (w' := w') ?_ ⟨rfl, Ext.refl _ _⟩
          simp [execOp, h82, h84, Result.andThen, go_sem]
        case f10_17 =>
          intro f v g w' hJ hfi hb hd
          refine arm_u rfl ?_
          refine op_run rfl ?_
          have e79 : g 79 = .bool true := value_u (hd ⟨3, .data⟩ (by simp) rfl) rfl rfl
          have e85 : g 85 = .bool true := value_u (hd ⟨9, .data⟩ (by simp) rfl) rfl rfl
          generalize hA : mkAct _ _ g = A
          have h79 : A.tmps[79]?.getD undef = .bool true := by rw [← hA, mkAct_in2 _ _ _ _ rfl rfl]; exact e79
          have h85 : A.tmps[85]?.getD undef = .bool true := by rw [← hA, mkAct_in2 _ _ _ _ rfl rfl]; exact e85
          refine step_val (v := .bool true) (w' := w') ?_ ⟨rfl, Ext.refl _ _⟩
          simp [execOp, h79, h85, Result.andThen, go_sem]
        case f11_17 =>
          intro f v g w' hJ hfi hb hd
          refine arm_u rfl ?_
          refine op_run rfl ?_
          have e86 : g 86 = .bool true := value_u (hd ⟨10, .data⟩ (by simp) rfl) rfl rfl
          generalize hA : mkAct _ _ g = A
          have h86 : A.tmps[86]?.getD undef = .bool true := by rw [← hA, mkAct_in2 _ _ _ _ rfl rfl]; exact e86
          refine step_val (v := .bool true) (w' := w') ?_ ⟨rfl, Ext.refl _ _⟩
          simp [execOp, h86, Result.andThen, go_sem]
        case f12_17 =>
          intro f v g w' hJ hfi hb hd
          refine arm_u rfl ?_
          have eg : g 87 = .bool true := value_u (hd ⟨11, .guard⟩ (by simp) rfl) rfl rfl
          refine op_yes rfl rfl rfl rfl eg ?_
          generalize hA : mkAct _ _ g = A
          have h11 : A.tmps[11]?.getD undef = .pointer (some ⟨Lb, 0, none⟩) := by rw [← hA]; exact mkAct_out2 _ _ _ _ _ rfl rfl
          refine step_val (v := .pointer (some ⟨Lb, 0, none⟩)) (w' := w') ?_ ⟨rfl, Ext.refl _ _⟩
          simp [execOp, h11, Result.andThen, go_sem]
        case f13_17 =>
          intro f v g w' hJ hfi hb hd
          refine arm_u rfl ?_
          have eg : g 87 = .bool true := value_u (hd ⟨11, .guard⟩ (by simp) rfl) rfl rfl
          refine op_yes rfl rfl rfl rfl eg ?_
          have e88 : g 88 = .pointer (some ⟨Lb, 0, none⟩) := value_u (hd ⟨12, .data⟩ (by simp) rfl) rfl rfl
          generalize hA : mkAct _ _ g = A
          have h88 : A.tmps[88]?.getD undef = .pointer (some ⟨Lb, 0, none⟩) := by rw [← hA, mkAct_in2 _ _ _ _ rfl rfl]; exact e88
          have c := (cm w' hJ.1).1
          refine step_val (v := .int .i64 ix) (w' := w') ?_ ⟨rfl, Ext.refl _ _⟩
          simp [execOp, h88, c, Result.andThen, go_sem]
        case f14_17 =>
          intro f v g w' hJ hfi hb hd
          refine arm_u rfl ?_
          have eg : g 87 = .bool true := value_u (hd ⟨11, .guard⟩ (by simp) rfl) rfl rfl
          refine op_yes rfl rfl rfl rfl eg ?_
          generalize hA : mkAct _ _ g = A
          have h2 : A.tmps[2]?.getD undef = .int .i64 ix := by rw [← hA]; exact mkAct_out2 _ _ _ _ _ rfl rfl
          refine step_val (v := .int .i64 ix) (w' := w') ?_ ⟨rfl, Ext.refl _ _⟩
          simp [execOp, h2, Result.andThen, go_sem]
        case f15_17 =>
          intro f v g w' hJ hfi hb hd
          refine arm_u rfl ?_
          have eg : g 87 = .bool true := value_u (hd ⟨11, .guard⟩ (by simp) rfl) rfl rfl
          refine op_yes rfl rfl rfl rfl eg ?_
          have e89 : g 89 = .int .i64 ix := value_u (hd ⟨13, .data⟩ (by simp) rfl) rfl rfl
          have e90 : g 90 = .int .i64 ix := value_u (hd ⟨14, .data⟩ (by simp) rfl) rfl rfl
          generalize hA : mkAct _ _ g = A
          have h89 : A.tmps[89]?.getD undef = .int .i64 ix := by rw [← hA, mkAct_in2 _ _ _ _ rfl rfl]; exact e89
          have h90 : A.tmps[90]?.getD undef = .int .i64 ix := by rw [← hA, mkAct_in2 _ _ _ _ rfl rfl]; exact e90
          refine step_val (v := .bool true) (w' := w') ?_ ⟨rfl, Ext.refl _ _⟩
          simp [execOp, h89, h90, Result.andThen, go_sem]
        case f16_17 =>
          intro f v g w' hJ hfi hb hd
          refine arm_u rfl ?_
          refine op_run rfl ?_
          have e87 : g 87 = .bool true := value_u (hd ⟨11, .data⟩ (by simp) rfl) rfl rfl
          have e91 : g 91 = .bool true := value_u (hd ⟨15, .data⟩ (by simp) rfl) rfl rfl
          generalize hA : mkAct _ _ g = A
          have h87 : A.tmps[87]?.getD undef = .bool true := by rw [← hA, mkAct_in2 _ _ _ _ rfl rfl]; exact e87
          have h91 : A.tmps[91]?.getD undef = .bool true := by rw [← hA, mkAct_in2 _ _ _ _ rfl rfl]; exact e91
          refine step_val (v := .bool true) (w' := w') ?_ ⟨rfl, Ext.refl _ _⟩
          simp [execOp, h87, h91, Result.andThen, go_sem]
        case f17_17 =>
          intro f v g w' hJ hfi hb hd
          refine arm_u rfl ?_
          refine op_run rfl ?_
          have e92 : g 92 = .bool true := value_u (hd ⟨16, .data⟩ (by simp) rfl) rfl rfl
          generalize hA : mkAct _ _ g = A
          have h92 : A.tmps[92]?.getD undef = .bool true := by rw [← hA, mkAct_in2 _ _ _ _ rfl rfl]; exact e92
          refine step_val (v := .bool true) (w' := w') ?_ ⟨rfl, Ext.refl _ _⟩
          simp [execOp, h92, Result.andThen, go_sem]
        case f18_17 =>
          intro f v g w' hJ hfi hb hd
          refine arm_u rfl ?_
          have eg : g 93 = .bool true := value_u (hd ⟨17, .guard⟩ (by simp) rfl) rfl rfl
          refine op_yes rfl rfl rfl rfl eg ?_
          generalize hA : mkAct _ _ g = A
          have h11 : A.tmps[11]?.getD undef = .pointer (some ⟨Lb, 0, none⟩) := by rw [← hA]; exact mkAct_out2 _ _ _ _ _ rfl rfl
          refine step_val (v := .pointer (some ⟨Lb, 1, none⟩)) (w' := w') ?_ ⟨rfl, Ext.refl _ _⟩
          simp [execOp, h11, Result.andThen, go_sem]
        case f19_17 =>
          intro f v g w' hJ hfi hb hd
          refine arm_u rfl ?_
          have eg : g 93 = .bool true := value_u (hd ⟨17, .guard⟩ (by simp) rfl) rfl rfl
          refine op_yes rfl rfl rfl rfl eg ?_
          have e94 : g 94 = .pointer (some ⟨Lb, 1, none⟩) := value_u (hd ⟨18, .data⟩ (by simp) rfl) rfl rfl
          generalize hA : mkAct _ _ g = A
          have h94 : A.tmps[94]?.getD undef = .pointer (some ⟨Lb, 1, none⟩) := by rw [← hA, mkAct_in2 _ _ _ _ rfl rfl]; exact e94
          have c := (cm w' hJ.1).2.1
          refine step_val (v := .int .i64 tm) (w' := w') ?_ ⟨rfl, Ext.refl _ _⟩
          simp [execOp, h94, c, Result.andThen, go_sem]
        case f20_17 =>
          intro f v g w' hJ hfi hb hd
          refine arm_u rfl ?_
          have eg : g 93 = .bool true := value_u (hd ⟨17, .guard⟩ (by simp) rfl) rfl rfl
          refine op_yes rfl rfl rfl rfl eg ?_
          generalize hA : mkAct _ _ g = A
          have h3 : A.tmps[3]?.getD undef = .int .i64 tm := by rw [← hA]; exact mkAct_out2 _ _ _ _ _ rfl rfl
          refine step_val (v := .int .i64 tm) (w' := w') ?_ ⟨rfl, Ext.refl _ _⟩
          simp [execOp, h3, Result.andThen, go_sem]
        case f21_17 =>
          intro f v g w' hJ hfi hb hd
          refine arm_u rfl ?_
          have eg : g 93 = .bool true := value_u (hd ⟨17, .guard⟩ (by simp) rfl) rfl rfl
          refine op_yes rfl rfl rfl rfl eg ?_
          have e95 : g 95 = .int .i64 tm := value_u (hd ⟨19, .data⟩ (by simp) rfl) rfl rfl
          have e96 : g 96 = .int .i64 tm := value_u (hd ⟨20, .data⟩ (by simp) rfl) rfl rfl
          generalize hA : mkAct _ _ g = A
          have h95 : A.tmps[95]?.getD undef = .int .i64 tm := by rw [← hA, mkAct_in2 _ _ _ _ rfl rfl]; exact e95
          have h96 : A.tmps[96]?.getD undef = .int .i64 tm := by rw [← hA, mkAct_in2 _ _ _ _ rfl rfl]; exact e96
          refine step_val (v := .bool true) (w' := w') ?_ ⟨rfl, Ext.refl _ _⟩
          simp [execOp, h95, h96, Result.andThen, go_sem]
        case f22_17 =>
          intro f v g w' hJ hfi hb hd
          refine arm_u rfl ?_
          refine op_run rfl ?_
          have e93 : g 93 = .bool true := value_u (hd ⟨17, .data⟩ (by simp) rfl) rfl rfl
          have e97 : g 97 = .bool true := value_u (hd ⟨21, .data⟩ (by simp) rfl) rfl rfl
          generalize hA : mkAct _ _ g = A
          have h93 : A.tmps[93]?.getD undef = .bool true := by rw [← hA, mkAct_in2 _ _ _ _ rfl rfl]; exact e93
          have h97 : A.tmps[97]?.getD undef = .bool true := by rw [← hA, mkAct_in2 _ _ _ _ rfl rfl]; exact e97
          refine step_val (v := .bool true) (w' := w') ?_ ⟨rfl, Ext.refl _ _⟩
          simp [execOp, h93, h97, Result.andThen, go_sem]
        case f23_17 =>
          intro f v g w' hJ hfi hb hd
          refine arm_u rfl ?_
          refine op_run rfl ?_
          have e98 : g 98 = .bool true := value_u (hd ⟨22, .data⟩ (by simp) rfl) rfl rfl
          generalize hA : mkAct _ _ g = A
          have h98 : A.tmps[98]?.getD undef = .bool true := by rw [← hA, mkAct_in2 _ _ _ _ rfl rfl]; exact e98
          refine step_val (v := .bool true) (w' := w') ?_ ⟨rfl, Ext.refl _ _⟩
          simp [execOp, h98, Result.andThen, go_sem]
        case f24_17 =>
          intro f v g w' hJ hfi hb hd
          refine arm_u rfl ?_
          have eg : g 99 = .bool true := value_u (hd ⟨23, .guard⟩ (by simp) rfl) rfl rfl
          refine op_yes rfl rfl rfl rfl eg ?_
          generalize hA : mkAct _ _ g = A
          have h11 : A.tmps[11]?.getD undef = .pointer (some ⟨Lb, 0, none⟩) := by rw [← hA]; exact mkAct_out2 _ _ _ _ _ rfl rfl
          refine step_val (v := .pointer (some ⟨Lb, 2, none⟩)) (w' := w') ?_ ⟨rfl, Ext.refl _ _⟩
          simp [execOp, h11, Result.andThen, go_sem]
        case f25_17 =>
          intro f v g w' hJ hfi hb hd
          refine arm_u rfl ?_
          have eg : g 99 = .bool true := value_u (hd ⟨23, .guard⟩ (by simp) rfl) rfl rfl
          refine op_yes rfl rfl rfl rfl eg ?_
          have e100 : g 100 = .pointer (some ⟨Lb, 2, none⟩) := value_u (hd ⟨24, .data⟩ (by simp) rfl) rfl rfl
          generalize hA : mkAct _ _ g = A
          have h100 : A.tmps[100]?.getD undef = .pointer (some ⟨Lb, 2, none⟩) := by rw [← hA, mkAct_in2 _ _ _ _ rfl rfl]; exact e100
          have c := (cm w' hJ.1).2.2.1
          refine step_val (v := .int .i64 (nn % 4096)) (w' := w') ?_ ⟨rfl, Ext.refl _ _⟩
          simp [execOp, h100, c, Result.andThen, go_sem]
        case f26_17 =>
          intro f v g w' hJ hfi hb hd
          refine arm_u rfl ?_
          have eg : g 99 = .bool true := value_u (hd ⟨23, .guard⟩ (by simp) rfl) rfl rfl
          refine op_yes rfl rfl rfl rfl eg ?_
          generalize hA : mkAct _ _ g = A
          have h0 : A.tmps[0]?.getD undef = .int .i64 (nn % 4096) := by rw [← hA]; exact mkAct_out2 _ _ _ _ _ rfl rfl
          refine step_val (v := .int .i64 (nn % 4096)) (w' := w') ?_ ⟨rfl, Ext.refl _ _⟩
          simp [execOp, h0, Result.andThen, go_sem]
        case f27_17 =>
          intro f v g w' hJ hfi hb hd
          refine arm_u rfl ?_
          have eg : g 99 = .bool true := value_u (hd ⟨23, .guard⟩ (by simp) rfl) rfl rfl
          refine op_yes rfl rfl rfl rfl eg ?_
          have e101 : g 101 = .int .i64 (nn % 4096) := value_u (hd ⟨25, .data⟩ (by simp) rfl) rfl rfl
          have e102 : g 102 = .int .i64 (nn % 4096) := value_u (hd ⟨26, .data⟩ (by simp) rfl) rfl rfl
          generalize hA : mkAct _ _ g = A
          have h101 : A.tmps[101]?.getD undef = .int .i64 (nn % 4096) := by rw [← hA, mkAct_in2 _ _ _ _ rfl rfl]; exact e101
          have h102 : A.tmps[102]?.getD undef = .int .i64 (nn % 4096) := by rw [← hA, mkAct_in2 _ _ _ _ rfl rfl]; exact e102
          refine step_val (v := .bool true) (w' := w') ?_ ⟨rfl, Ext.refl _ _⟩
          simp [execOp, h101, h102, Result.andThen, go_sem]
        case f28_17 =>
          intro f v g w' hJ hfi hb hd
          refine arm_u rfl ?_
          refine op_run rfl ?_
          have e99 : g 99 = .bool true := value_u (hd ⟨23, .data⟩ (by simp) rfl) rfl rfl
          have e103 : g 103 = .bool true := value_u (hd ⟨27, .data⟩ (by simp) rfl) rfl rfl
          generalize hA : mkAct _ _ g = A
          have h99 : A.tmps[99]?.getD undef = .bool true := by rw [← hA, mkAct_in2 _ _ _ _ rfl rfl]; exact e99
          have h103 : A.tmps[103]?.getD undef = .bool true := by rw [← hA, mkAct_in2 _ _ _ _ rfl rfl]; exact e103
          refine step_val (v := .bool true) (w' := w') ?_ ⟨rfl, Ext.refl _ _⟩
          simp [execOp, h99, h103, Result.andThen, go_sem]
        case f29_17 =>
          intro f v g w' hJ hfi hb hd
          refine arm_u rfl ?_
          refine op_run rfl ?_
          have e104 : g 104 = .bool true := value_u (hd ⟨28, .data⟩ (by simp) rfl) rfl rfl
          generalize hA : mkAct _ _ g = A
          have h104 : A.tmps[104]?.getD undef = .bool true := by rw [← hA, mkAct_in2 _ _ _ _ rfl rfl]; exact e104
          refine step_val (v := .bool true) (w' := w') ?_ ⟨rfl, Ext.refl _ _⟩
          simp [execOp, h104, Result.andThen, go_sem]
        case f30_17 =>
          intro f v g w' hJ hfi hb hd
          refine arm_u rfl ?_
          have eg : g 105 = .bool true := value_u (hd ⟨29, .guard⟩ (by simp) rfl) rfl rfl
          refine op_yes rfl rfl rfl rfl eg ?_
          generalize hA : mkAct _ _ g = A
          have h11 : A.tmps[11]?.getD undef = .pointer (some ⟨Lb, 0, none⟩) := by rw [← hA]; exact mkAct_out2 _ _ _ _ _ rfl rfl
          obtain ⟨d0, d1, d2, d3⟩ := (cm w' hJ.1)
          refine step_val (v := .agg #[.int .i64 ix, .int .i64 tm, .int .i64 (nn % 4096), .slice sa k sc]) (w' := w') ?_ ⟨rfl, Ext.refl _ _⟩
          simp [execOp, h11, d0, d1, d2, d3, Result.andThen, go_sem]
        case f31_17 =>
          intro f v g w' hJ hfi hb hd
          refine arm_u rfl ?_
          have eg : g 105 = .bool true := value_u (hd ⟨29, .guard⟩ (by simp) rfl) rfl rfl
          refine op_yes rfl rfl rfl rfl eg ?_
          generalize hA : mkAct _ _ g = A
          have h11 : A.tmps[11]?.getD undef = .pointer (some ⟨Lb, 0, none⟩) := by rw [← hA]; exact mkAct_out2 _ _ _ _ _ rfl rfl
          obtain ⟨d0, d1, d2, d3⟩ := (cm w' hJ.1)
          refine step_val (v := .agg #[.int .i64 ix, .int .i64 tm, .int .i64 (nn % 4096), .slice sa k sc]) (w' := w') ?_ ⟨rfl, Ext.refl _ _⟩
          simp [execOp, h11, d0, d1, d2, d3, Result.andThen, go_sem]
        case f32_17 =>
          intro f v g w' hJ hfi hb hd
          refine arm_u rfl ?_
          have eg : g 105 = .bool true := value_u (hd ⟨29, .guard⟩ (by simp) rfl) rfl rfl
          refine op_yes rfl rfl rfl rfl eg ?_
          have e106 : g 106 = .agg #[.int .i64 ix, .int .i64 tm, .int .i64 (nn % 4096), .slice sa k sc] := value_u (hd ⟨30, .data⟩ (by simp) rfl) rfl rfl
          have e107 : g 107 = .agg #[.int .i64 ix, .int .i64 tm, .int .i64 (nn % 4096), .slice sa k sc] := value_u (hd ⟨31, .data⟩ (by simp) rfl) rfl rfl
          generalize hA : mkAct _ _ g = A
          have h106 : A.tmps[106]?.getD undef = .agg #[.int .i64 ix, .int .i64 tm, .int .i64 (nn % 4096), .slice sa k sc] := by rw [← hA, mkAct_in2 _ _ _ _ rfl rfl]; exact e106
          have h107 : A.tmps[107]?.getD undef = .agg #[.int .i64 ix, .int .i64 tm, .int .i64 (nn % 4096), .slice sa k sc] := by rw [← hA, mkAct_in2 _ _ _ _ rfl rfl]; exact e107
          refine float_u (fun K hK => ?_)
          go_simp
          refine (cs1 w' hJ.1).mono ?_
          rintro e w2 ⟨rfl, hx2⟩
          exact hK w2 hx2
        case f33_17 =>
          intro f v g w' hJ hfi hb hd
          refine arm_u rfl ?_
          refine op_run rfl ?_
          have e105 : g 105 = .bool true := value_u (hd ⟨29, .data⟩ (by simp) rfl) rfl rfl
          have e108 : g 108 = .bool true := value_u (hd ⟨32, .data⟩ (by simp) rfl) rfl rfl
          generalize hA : mkAct _ _ g = A
          have h105 : A.tmps[105]?.getD undef = .bool true := by rw [← hA, mkAct_in2 _ _ _ _ rfl rfl]; exact e105
          have h108 : A.tmps[108]?.getD undef = .bool true := by rw [← hA, mkAct_in2 _ _ _ _ rfl rfl]; exact e108
          refine step_val (v := .bool true) (w' := w') ?_ ⟨rfl, Ext.refl _ _⟩
          simp [execOp, h105, h108, Result.andThen, go_sem]
        case f34_17 =>
          intro f v g w' hJ hfi hb hd
          refine arm_u rfl ?_
          refine op_run rfl ?_
          have e109 : g 109 = .bool true := value_u (hd ⟨33, .data⟩ (by simp) rfl) rfl rfl
          generalize hA : mkAct _ _ g = A
          have h109 : A.tmps[109]?.getD undef = .bool true := by rw [← hA, mkAct_in2 _ _ _ _ rfl rfl]; exact e109
          refine step_val (v := .bool true) (w' := w') ?_ ⟨rfl, Ext.refl _ _⟩
          simp [execOp, h109, Result.andThen, go_sem]
        case f35_17 =>
          intro f v g w' hJ hfi hb hd
          refine arm_u rfl ?_
          have eg : g 110 = .bool true := value_u (hd ⟨34, .guard⟩ (by simp) rfl) rfl rfl
          refine op_yes rfl rfl rfl rfl eg ?_
          generalize hA : mkAct _ _ g = A
          have h11 : A.tmps[11]?.getD undef = .pointer (some ⟨Lb, 0, none⟩) := by rw [← hA]; exact mkAct_out2 _ _ _ _ _ rfl rfl
          obtain ⟨d0, d1, d2, d3⟩ := (cm w' hJ.1)
          refine step_val (v := .agg #[.int .i64 ix, .int .i64 tm, .int .i64 (nn % 4096), .slice sa k sc]) (w' := w') ?_ ⟨rfl, Ext.refl _ _⟩
          simp [execOp, h11, d0, d1, d2, d3, Result.andThen, go_sem]
        case f36_17 =>
          intro f v g w' hJ hfi hb hd
          refine arm_u rfl ?_
          have eg : g 110 = .bool true := value_u (hd ⟨34, .guard⟩ (by simp) rfl) rfl rfl
          refine op_yes rfl rfl rfl rfl eg ?_
          generalize hA : mkAct _ _ g = A
          have h15 : A.tmps[15]?.getD undef = .pointer (some ⟨Ob, 0, none⟩) := by rw [← hA]; exact mkAct_out2 _ _ _ _ _ rfl rfl
          obtain ⟨d0, d1, d2, d3⟩ := (cob w' hJ.1)
          refine step_val (v := .agg #[.int .i64 ix, .int .i64 tm, .int .i64 (nn % 4096 + 1), .slice sa k sc]) (w' := w') ?_ ⟨rfl, Ext.refl _ _⟩
          simp [execOp, h15, d0, d1, d2, d3, Result.andThen, go_sem]
        case f37_17 =>
          intro f v g w' hJ hfi hb hd
          refine arm_u rfl ?_
          have eg : g 110 = .bool true := value_u (hd ⟨34, .guard⟩ (by simp) rfl) rfl rfl
          refine op_yes rfl rfl rfl rfl eg ?_
          have e111 : g 111 = .agg #[.int .i64 ix, .int .i64 tm, .int .i64 (nn % 4096), .slice sa k sc] := value_u (hd ⟨35, .data⟩ (by simp) rfl) rfl rfl
          have e112 : g 112 = .agg #[.int .i64 ix, .int .i64 tm, .int .i64 (nn % 4096 + 1), .slice sa k sc] := value_u (hd ⟨36, .data⟩ (by simp) rfl) rfl rfl
          generalize hA : mkAct _ _ g = A
          have h111 : A.tmps[111]?.getD undef = .agg #[.int .i64 ix, .int .i64 tm, .int .i64 (nn % 4096), .slice sa k sc] := by rw [← hA, mkAct_in2 _ _ _ _ rfl rfl]; exact e111
          have h112 : A.tmps[112]?.getD undef = .agg #[.int .i64 ix, .int .i64 tm, .int .i64 (nn % 4096 + 1), .slice sa k sc] := by rw [← hA, mkAct_in2 _ _ _ _ rfl rfl]; exact e112
          refine float_u (fun K hK => ?_)
          go_simp
          refine (cs2 w' hJ.1).mono ?_
          rintro e w2 ⟨rfl, hx2⟩
          exact hK w2 hx2
        case f38_17 =>
          intro f v g w' hJ hfi hb hd
          refine arm_u rfl ?_
          have eg : g 110 = .bool true := value_u (hd ⟨34, .guard⟩ (by simp) rfl) rfl rfl
          refine op_yes rfl rfl rfl rfl eg ?_
          have e113 : g 113 = .bool false := value_u (hd ⟨37, .data⟩ (by simp) rfl) rfl rfl
          generalize hA : mkAct _ _ g = A
          have h113 : A.tmps[113]?.getD undef = .bool false := by rw [← hA, mkAct_in2 _ _ _ _ rfl rfl]; exact e113
          refine step_val (v := .bool true) (w' := w') ?_ ⟨rfl, Ext.refl _ _⟩
          simp [execOp, h113, Result.andThen, go_sem]
        case f39_17 =>
          intro f v g w' hJ hfi hb hd
          refine arm_u rfl ?_
          refine op_run rfl ?_
          have e110 : g 110 = .bool true := value_u (hd ⟨34, .data⟩ (by simp) rfl) rfl rfl
          have e114 : g 114 = .bool true := value_u (hd ⟨38, .data⟩ (by simp) rfl) rfl rfl
          generalize hA : mkAct _ _ g = A
          have h110 : A.tmps[110]?.getD undef = .bool true := by rw [← hA, mkAct_in2 _ _ _ _ rfl rfl]; exact e110
          have h114 : A.tmps[114]?.getD undef = .bool true := by rw [← hA, mkAct_in2 _ _ _ _ rfl rfl]; exact e114
          refine step_val (v := .bool true) (w' := w') ?_ ⟨rfl, Ext.refl _ _⟩
          simp [execOp, h110, h114, Result.andThen, go_sem]
        case f40_17 =>
          intro f v g w' hJ hfi hb hd
          refine arm_u rfl ?_
          refine op_run rfl ?_
          have e115 : g 115 = .bool true := value_u (hd ⟨39, .data⟩ (by simp) rfl) rfl rfl
          generalize hA : mkAct _ _ g = A
          have h115 : A.tmps[115]?.getD undef = .bool true := by rw [← hA, mkAct_in2 _ _ _ _ rfl rfl]; exact e115
          refine step_val (v := .bool true) (w' := w') ?_ ⟨rfl, Ext.refl _ _⟩
          simp [execOp, h115, Result.andThen, go_sem]
        case f41_17 =>
          intro f v g w' hJ hfi hb hd
          refine arm_u rfl ?_
          have eg : g 116 = .bool true := value_u (hd ⟨40, .guard⟩ (by simp) rfl) rfl rfl
          refine op_yes rfl rfl rfl rfl eg ?_
          generalize hA : mkAct _ _ g = A
          have h11 : A.tmps[11]?.getD undef = .pointer (some ⟨Lb, 0, none⟩) := by rw [← hA]; exact mkAct_out2 _ _ _ _ _ rfl rfl
          obtain ⟨d0, d1, d2, d3⟩ := (cm w' hJ.1)
          refine step_val (v := .agg #[.int .i64 ix, .int .i64 tm, .int .i64 (nn % 4096), .slice sa k sc]) (w' := w') ?_ ⟨rfl, Ext.refl _ _⟩
          simp [execOp, h11, d0, d1, d2, d3, Result.andThen, go_sem]
        case f42_17 =>
          intro f v g w' hJ hfi hb hd
          refine arm_u rfl ?_
          have eg : g 116 = .bool true := value_u (hd ⟨40, .guard⟩ (by simp) rfl) rfl rfl
          refine op_yes rfl rfl rfl rfl eg ?_
          generalize hA : mkAct _ _ g = A
          have h2 : A.tmps[2]?.getD undef = .int .i64 ix := by rw [← hA]; exact mkAct_out2 _ _ _ _ _ rfl rfl
          refine step_val (v := .int .i64 ix) (w' := w') ?_ ⟨rfl, Ext.refl _ _⟩
          simp [execOp, h2, Result.andThen, go_sem]
        case f43_17 =>
          intro f v g w' hJ hfi hb hd
          refine arm_u rfl ?_
          have eg : g 116 = .bool true := value_u (hd ⟨40, .guard⟩ (by simp) rfl) rfl rfl
          refine op_yes rfl rfl rfl rfl eg ?_
          have e118 : g 118 = .int .i64 ix := value_u (hd ⟨42, .data⟩ (by simp) rfl) rfl rfl
          generalize hA : mkAct _ _ g = A
          have h118 : A.tmps[118]?.getD undef = .int .i64 ix := by rw [← hA, mkAct_in2 _ _ _ _ rfl rfl]; exact e118
          refine step_val (v := .int .i64 (bits .xor .i64 ix 1)) (w' := w') ?_ ⟨rfl, Ext.refl _ _⟩
          simp [execOp, h118, Result.andThen, go_sem]
        case f44_17 =>
          intro f v g w' hJ hfi hb hd
          refine arm_u rfl ?_
          have eg : g 116 = .bool true := value_u (hd ⟨40, .guard⟩ (by simp) rfl) rfl rfl
          refine op_yes rfl rfl rfl rfl eg ?_
          generalize hA : mkAct _ _ g = A
          have h3 : A.tmps[3]?.getD undef = .int .i64 tm := by rw [← hA]; exact mkAct_out2 _ _ _ _ _ rfl rfl
          refine step_val (v := .int .i64 tm) (w' := w') ?_ ⟨rfl, Ext.refl _ _⟩
          simp [execOp, h3, Result.andThen, go_sem]
        case f45_17 =>
          intro f v g w' hJ hfi hb hd
          refine arm_u rfl ?_
          have eg : g 116 = .bool true := value_u (hd ⟨40, .guard⟩ (by simp) rfl) rfl rfl
          refine op_yes rfl rfl rfl rfl eg ?_
          generalize hA : mkAct _ _ g = A
          have h9 : A.tmps[9]?.getD undef = (str tx) := by rw [← hA]; exact mkAct_out2 _ _ _ _ _ rfl rfl
          refine step_val (v := (str tx)) (w' := w') ?_ ⟨rfl, Ext.refl _ _⟩
          simp [execOp, h9, Result.andThen, go_sem]
        case f46_17 =>
          intro f v g w' hJ hfi hb hd
          refine arms_u rfl ?_
          have eg : g 116 = .bool true := value_u (hd ⟨40, .guard⟩ (by simp) rfl) rfl rfl
          refine op_yes rfl rfl rfl rfl eg ?_
          have e119 : g 119 = .int .i64 (bits .xor .i64 ix 1) := value_u (hd ⟨43, .data⟩ (by simp) rfl) rfl rfl
          have e120 : g 120 = .int .i64 tm := value_u (hd ⟨44, .data⟩ (by simp) rfl) rfl rfl
          have e121 : g 121 = (str tx) := value_u (hd ⟨45, .data⟩ (by simp) rfl) rfl rfl
          generalize hA : mkAct _ _ g = A
          have h119 : A.tmps[119]?.getD undef = .int .i64 (bits .xor .i64 ix 1) := by rw [← hA, mkAct_in2 _ _ _ _ rfl rfl]; exact e119
          have h120 : A.tmps[120]?.getD undef = .int .i64 tm := by rw [← hA, mkAct_in2 _ _ _ _ rfl rfl]; exact e120
          have h121 : A.tmps[121]?.getD undef = (str tx) := by rw [← hA, mkAct_in2 _ _ _ _ rfl rfl]; exact e121
          refine mid_u (fun K hK => ?_)
          go_simp
          refine (hofx w').mono ?_
          rintro e w2 ⟨zv, rfl, ho, hx2, hv⟩
          obtain ⟨ya, yc, rfl⟩ := Rd.isSlice ho.rd
          unfold lsv
          exact hK (.agg #[.int .i64 lz.idx, .int .i64 lz.term, .int .i64 lz.bytes, .slice ya lz.sums.length yc]) w2 ⟨hJ.1.then0 hx2, fun _ => ⟨ya, yc, setU_same _ _ _, ho.rd⟩⟩
        case f47_17 =>
          intro f v g w' hJ hfi hb hd
          refine arm_u rfl ?_
          have eg : g 116 = .bool true := value_u (hd ⟨40, .guard⟩ (by simp) rfl) rfl rfl
          refine op_yes rfl rfl rfl rfl eg ?_
          have e117 : g 117 = .agg #[.int .i64 ix, .int .i64 tm, .int .i64 (nn % 4096), .slice sa k sc] := value_u (hd ⟨41, .data⟩ (by simp) rfl) rfl rfl
          obtain ⟨hf122, e122⟩ := special_u (hd ⟨46, .data⟩ (by simp) rfl) rfl rfl
          replace e122 : g 122 = v 46 := e122
          obtain ⟨ya, yc, ez, hz⟩ := hJ.2 hf122
          rw [ez] at e122
          generalize hA : mkAct _ _ g = A
          have h117 : A.tmps[117]?.getD undef = .agg #[.int .i64 ix, .int .i64 tm, .int .i64 (nn % 4096), .slice sa k sc] := by rw [← hA, mkAct_in2 _ _ _ _ rfl rfl]; exact e117
          have h122 : A.tmps[122]?.getD undef = .agg #[.int .i64 lz.idx, .int .i64 lz.term, .int .i64 lz.bytes, .slice ya lz.sums.length yc] := by rw [← hA, mkAct_in2 _ _ _ _ rfl rfl]; exact e122
          refine float_u (fun K hK => ?_)
          go_simp
          refine (cs3 w' (.slice ya lz.sums.length yc) hJ.1 hz).mono ?_
          rintro e w2 ⟨rfl, hx2⟩
          exact hK w2 hx2
        case f48_17 =>
          intro f v g w' hJ hfi hb hd
          refine arm_u rfl ?_
          have eg : g 116 = .bool true := value_u (hd ⟨40, .guard⟩ (by simp) rfl) rfl rfl
          refine op_yes rfl rfl rfl rfl eg ?_
          have e123 : g 123 = .bool false := value_u (hd ⟨47, .data⟩ (by simp) rfl) rfl rfl
          generalize hA : mkAct _ _ g = A
          have h123 : A.tmps[123]?.getD undef = .bool false := by rw [← hA, mkAct_in2 _ _ _ _ rfl rfl]; exact e123
          refine step_val (v := .bool true) (w' := w') ?_ ⟨rfl, Ext.refl _ _⟩
          simp [execOp, h123, Result.andThen, go_sem]
        case f49_17 =>
          intro f v g w' hJ hfi hb hd
          refine arm_u rfl ?_
          refine op_run rfl ?_
          have e116 : g 116 = .bool true := value_u (hd ⟨40, .data⟩ (by simp) rfl) rfl rfl
          have e124 : g 124 = .bool true := value_u (hd ⟨48, .data⟩ (by simp) rfl) rfl rfl
          generalize hA : mkAct _ _ g = A
          have h116 : A.tmps[116]?.getD undef = .bool true := by rw [← hA, mkAct_in2 _ _ _ _ rfl rfl]; exact e116
          have h124 : A.tmps[124]?.getD undef = .bool true := by rw [← hA, mkAct_in2 _ _ _ _ rfl rfl]; exact e124
          refine step_val (v := .bool true) (w' := w') ?_ ⟨rfl, Ext.refl _ _⟩
          simp [execOp, h116, h124, Result.andThen, go_sem]
        case f50_17 =>
          intro f v g w' hJ hfi hb hd
          refine arm_u rfl ?_
          refine op_run rfl ?_
          have e125 : g 125 = .bool true := value_u (hd ⟨49, .data⟩ (by simp) rfl) rfl rfl
          generalize hA : mkAct _ _ g = A
          have h125 : A.tmps[125]?.getD undef = .bool true := by rw [← hA, mkAct_in2 _ _ _ _ rfl rfl]; exact e125
          refine step_val (v := .bool true) (w' := w') ?_ ⟨rfl, Ext.refl _ _⟩
          simp [execOp, h125, Result.andThen, go_sem]
      intro f v g wn hJ hk
      have e8 : g 8 = .bool true := value_u (hk 50 (by decide)) rfl rfl
      have hxe := hJ.1
      clear hk hJ cm cob cs1 cs2 cs3 hofx
      unfold mkAct; simp only [List.zipIdx_cons, List.zipIdx_nil, List.map_cons, List.map_nil, Nat.zero_add, Nat.reduceAdd, List.contains_cons, List.contains_nil, Nat.reduceBEq, Bool.or_false, Bool.or_true, ↓reduceIte, Bool.false_eq_true]
      rw [e8]
      go_wp2
      go_ret
      exact ⟨rfl, HX7.out.then0 hxe⟩
end Go.Proofs.Ytlnfigbcdmfmdaa
