/- ChunkOthers: the walk. (Printed by wip/gen_others7.py.) -/
import Derived.Test.YtlnfigbcdmfmdaaChks
namespace Go.Proofs.Ytlnfigbcdmfmdaa
open Go.RowKit
set_option linter.unusedVariables false
set_option linter.unusedSimpArgs false
theorem i64_and2047 (n : Int) : bits .and .i64 n 2047 = n % 2048 := i64_mask n 2047 11 (by decide) (by decide)
attribute [local go_sem] i64_and2047 i64_and255 i64_and7

/-- The law's like. -/
def likeB (x p : List UInt8) : Bool := decide (x.length = p.length ∧ sumOf x = sumOf p)
set_option maxRecDepth 100000 in
set_option maxHeartbeats 6400000 in
theorem like_any (x p : List UInt8) (P1 P2 zg zo nk cap k : Nat) (ps : List (List UInt8)) (w : World) (h1 : Blk w P1 31 [.slice (some ⟨zg, zo, none⟩) nk cap]) (h2 : Blk w P2 3 [.int .i64 (k : Int)]) (hR : Rd w 1 (.slice (some ⟨zg, zo, none⟩) nk cap) nk (ps.map str)) (hp : ps[k]? = some p) (hnk : nk ≤ 1000000) (hxl : x.length ≤ 1000000) (hpl : p.length ≤ 1000000) :
    Calls Try.prog 17 #[str x, .pointer (some ⟨P1, 0, none⟩), .pointer (some ⟨P2, 0, none⟩)] w fun e w' => e = .returned (.bool (likeB x p)) ∧ Ext [] w w' := by
  have c1 := fun w' (hx : Ext [] w w') => (Blk.c (Blk.keep h1 hx (by simp)) 0 : w'.cell? ⟨P1, 0, none⟩ = some (.slice (some ⟨zg, zo, none⟩) nk cap))
  have c2 := fun w' (hx : Ext [] w w') => (Blk.c (Blk.keep h2 hx (by simp)) 0 : w'.cell? ⟨P2, 0, none⟩ = some (.int .i64 (k : Int)))
  have hlen := hR.len.2.2.2
  rw [List.length_map] at hlen
  have hk : k < ps.length := (List.getElem?_eq_some_iff.1 hp).1
  have hkn : k < nk := by omega
  have hkl : (k : Int) < (nk : Int) := by omega
  obtain ⟨g9, o9, e9, -, hc9⟩ := hR.view (by omega)
  cases e9
  have hcz : w.cell? ⟨zg, zo + k, none⟩ = some (str p) := hc9 k _ (by rw [List.getElem?_map, hp]; rfl)
  have cz := fun w' (hx : Ext [] w w') => hx.cell (p := ⟨zg, zo + k, none⟩) (by simp) hcz
  clear hc9 hcz hR hp h1 h2 hlen hk
  by_cases hA : x.length = p.length
  · have eA : ((x.length : Int) == (p.length : Int)) = true := by rw [hA]; simp
    have HL : Hid (likeB x p = decide (sumOf x = sumOf p)) := Hid.of (by unfold likeB; simp [hA])
    by_cases hB : sumOf x = sumOf p
    · have HLT : Hid (likeB x p = true) := Hid.of (by rw [HL.out]; exact decide_eq_true hB)
      generalize likeB x p = lk at HLT ⊢
      have eB : u32v (sumOf x) = u32v (sumOf p) := by rw [hB]
      clear HL hB
      go_enter Try.func17, Try.ntmps17
      go_upto_region 1 with fail
      refine wp_region_u [5, 6, 7, 8, 9, 10, 11, 12, 13, 14, 15, 16, 17, 18, 19, 20, 21, 22, 23, 24, 4] [10, 16] (fun n => match n with | 0 => .string ⟨x.toArray⟩ | 1 => .int .i64 (x.length : Int) | 2 => .slice (some ⟨zg, zo, none⟩) nk cap | 3 => .int .i64 (k : Int) | 4 => .pointer (some ⟨zg, zo + k, none⟩) | 5 => .string ⟨p.toArray⟩ | 6 => .int .i64 (p.length : Int) | 7 => .bool true | 8 => .bool true | 9 => .string ⟨x.toArray⟩ | 11 => .int .u32 (u32v (sumOf x)) | 12 => .slice (some ⟨zg, zo, none⟩) nk cap | 13 => .int .i64 (k : Int) | 14 => .pointer (some ⟨zg, zo + k, none⟩) | 15 => .string ⟨p.toArray⟩ | 17 => .int .u32 (u32v (sumOf p)) | 18 => .bool true | 19 => .bool true | 20 => .bool true | _ => undef) (fun f v wx => Ext [] w wx ∧ (f 10 = true → ∃ z, v 10 = .slice (some ⟨z, 0, none⟩) 1 1 ∧ Blk wx z 9 [str x]) ∧ (f 16 = true → ∃ z, v 16 = .slice (some ⟨z, 0, none⟩) 1 1 ∧ Blk wx z 9 [str p])) (by kernel_rfl) (by kernel_rfl) ?hst0_1a ?h00_1a ?hst_1a ?hend_1a
      case hst0_1a =>
        rintro f v w w' ⟨hx, j1, j2⟩ hx2
        refine ⟨hx.then0 hx2, fun h => ?_, fun h => ?_⟩
        · obtain ⟨z, ez, hz⟩ := j1 h
          exact ⟨z, ez, Blk.keep hz hx2 List.not_mem_nil⟩
        · obtain ⟨z, ez, hz⟩ := j2 h
          exact ⟨z, ez, Blk.keep hz hx2 List.not_mem_nil⟩
      case h00_1a =>
        exact ⟨Ext.refl _ _, fun h => (by cases h), fun h => (by cases h)⟩
      case hst_1a =>
        refine ⟨?f0_1a, ?f1_1a, ?f2_1a, ?f3_1a, ?f4_1a, ?f5_1a, ?f6_1a, ?f7_1a, ?f8_1a, ?f9_1a, ?f10_1a, ?f11_1a, ?f12_1a, ?f13_1a, ?f14_1a, ?f15_1a, ?f16_1a, ?f17_1a, ?f18_1a, ?f19_1a, ?f20_1a, trivial⟩
        case f0_1a =>
          intro f v g w' hJ hfi hb hd
          refine arm_u rfl ?_
          refine op_run rfl ?_
          generalize hA : mkAct _ _ g = A
          have h0 : A.tmps[0]?.getD undef = .string ⟨x.toArray⟩ := by rw [← hA]; exact mkAct_out2 _ _ _ _ _ rfl rfl
          refine step_val (v := .string ⟨x.toArray⟩) (w' := w') ?_ ⟨rfl, Ext.refl _ _⟩
          simp [execOp, h0, Result.andThen, go_sem]
        case f1_1a =>
          intro f v g w' hJ hfi hb hd
          refine arm_u rfl ?_
          refine op_run rfl ?_
          have e5 : g 5 = .string ⟨x.toArray⟩ := value_u (hd ⟨0, .data⟩ (by simp) rfl) rfl rfl
          generalize hA : mkAct _ _ g = A
          have h5 : A.tmps[5]?.getD undef = .string ⟨x.toArray⟩ := by rw [← hA, mkAct_in2 _ _ _ _ rfl rfl]; exact e5
          refine step_val (v := .int .i64 (x.length : Int)) (w' := w') ?_ ⟨rfl, Ext.refl _ _⟩
          simp [execOp, h5, Result.andThen, go_sem]
        case f2_1a =>
          intro f v g w' hJ hfi hb hd
          refine arm_u rfl ?_
          refine op_run rfl ?_
          generalize hA : mkAct _ _ g = A
          have h1 : A.tmps[1]?.getD undef = .pointer (some ⟨P1, 0, none⟩) := by rw [← hA]; exact mkAct_out2 _ _ _ _ _ rfl rfl
          have c := c1 w' hJ.1
          refine step_val (v := .slice (some ⟨zg, zo, none⟩) nk cap) (w' := w') ?_ ⟨rfl, Ext.refl _ _⟩
          simp [execOp, h1, c, Result.andThen, go_sem]
        case f3_1a =>
          intro f v g w' hJ hfi hb hd
          refine arm_u rfl ?_
          refine op_run rfl ?_
          generalize hA : mkAct _ _ g = A
          have h2 : A.tmps[2]?.getD undef = .pointer (some ⟨P2, 0, none⟩) := by rw [← hA]; exact mkAct_out2 _ _ _ _ _ rfl rfl
          have c := c2 w' hJ.1
          refine step_val (v := .int .i64 (k : Int)) (w' := w') ?_ ⟨rfl, Ext.refl _ _⟩
          simp [execOp, h2, c, Result.andThen, go_sem]
        case f4_1a =>
          intro f v g w' hJ hfi hb hd
          refine arm_u rfl ?_
          refine op_run rfl ?_
          have e7 : g 7 = .slice (some ⟨zg, zo, none⟩) nk cap := value_u (hd ⟨2, .data⟩ (by simp) rfl) rfl rfl
          have e8 : g 8 = .int .i64 (k : Int) := value_u (hd ⟨3, .data⟩ (by simp) rfl) rfl rfl
          generalize hA : mkAct _ _ g = A
          have h7 : A.tmps[7]?.getD undef = .slice (some ⟨zg, zo, none⟩) nk cap := by rw [← hA, mkAct_in2 _ _ _ _ rfl rfl]; exact e7
          have h8 : A.tmps[8]?.getD undef = .int .i64 (k : Int) := by rw [← hA, mkAct_in2 _ _ _ _ rfl rfl]; exact e8
          refine step_val (v := .pointer (some ⟨zg, zo + k, none⟩)) (w' := w') ?_ ⟨rfl, Ext.refl _ _⟩
          simp [execOp, hkl, h7, h8, Result.andThen, go_sem]
          all_goals (first | exact hkl | omega)
        case f5_1a =>
          intro f v g w' hJ hfi hb hd
          refine arm_u rfl ?_
          refine op_run rfl ?_
          have e9 : g 9 = .pointer (some ⟨zg, zo + k, none⟩) := value_u (hd ⟨4, .data⟩ (by simp) rfl) rfl rfl
          generalize hA : mkAct _ _ g = A
          have h9 : A.tmps[9]?.getD undef = .pointer (some ⟨zg, zo + k, none⟩) := by rw [← hA, mkAct_in2 _ _ _ _ rfl rfl]; exact e9
          have c := cz w' hJ.1
          refine step_val (v := .string ⟨p.toArray⟩) (w' := w') ?_ ⟨rfl, Ext.refl _ _⟩
          simp [execOp, h9, c, Result.andThen, go_sem]
        case f6_1a =>
          intro f v g w' hJ hfi hb hd
          refine arm_u rfl ?_
          refine op_run rfl ?_
          have e10 : g 10 = .string ⟨p.toArray⟩ := value_u (hd ⟨5, .data⟩ (by simp) rfl) rfl rfl
          generalize hA : mkAct _ _ g = A
          have h10 : A.tmps[10]?.getD undef = .string ⟨p.toArray⟩ := by rw [← hA, mkAct_in2 _ _ _ _ rfl rfl]; exact e10
          refine step_val (v := .int .i64 (p.length : Int)) (w' := w') ?_ ⟨rfl, Ext.refl _ _⟩
          simp [execOp, h10, Result.andThen, go_sem]
        case f7_1a =>
          intro f v g w' hJ hfi hb hd
          refine arm_u rfl ?_
          refine op_run rfl ?_
          have e6 : g 6 = .int .i64 (x.length : Int) := value_u (hd ⟨1, .data⟩ (by simp) rfl) rfl rfl
          have e11 : g 11 = .int .i64 (p.length : Int) := value_u (hd ⟨6, .data⟩ (by simp) rfl) rfl rfl
          generalize hA : mkAct _ _ g = A
          have h6 : A.tmps[6]?.getD undef = .int .i64 (x.length : Int) := by rw [← hA, mkAct_in2 _ _ _ _ rfl rfl]; exact e6
          have h11 : A.tmps[11]?.getD undef = .int .i64 (p.length : Int) := by rw [← hA, mkAct_in2 _ _ _ _ rfl rfl]; exact e11
          refine step_val (v := .bool true) (w' := w') ?_ ⟨rfl, Ext.refl _ _⟩
          simp [execOp, eA, h6, h11, Result.andThen, go_sem]
        case f8_1a =>
          intro f v g w' hJ hfi hb hd
          refine arm_u rfl ?_
          refine op_run rfl ?_
          have e12 : g 12 = .bool true := value_u (hd ⟨7, .data⟩ (by simp) rfl) rfl rfl
          generalize hA : mkAct _ _ g = A
          have h12 : A.tmps[12]?.getD undef = .bool true := by rw [← hA, mkAct_in2 _ _ _ _ rfl rfl]; exact e12
          refine step_val (v := .bool true) (w' := w') ?_ ⟨rfl, Ext.refl _ _⟩
          simp [execOp, h12, Result.andThen, go_sem]
        case f9_1a =>
          intro f v g w' hJ hfi hb hd
          refine arm_u rfl ?_
          have eg : g 13 = .bool true := value_u (hd ⟨8, .guard⟩ (by simp) rfl) rfl rfl
          refine op_yes rfl rfl rfl rfl eg ?_
          generalize hA : mkAct _ _ g = A
          have h0 : A.tmps[0]?.getD undef = .string ⟨x.toArray⟩ := by rw [← hA]; exact mkAct_out2 _ _ _ _ _ rfl rfl
          refine step_val (v := .string ⟨x.toArray⟩) (w' := w') ?_ ⟨rfl, Ext.refl _ _⟩
          simp [execOp, h0, Result.andThen, go_sem]
        case f10_1a =>
          intro f v g w' hJ hfi hb hd
          refine arms_u rfl ?_
          have eg : g 13 = .bool true := value_u (hd ⟨8, .guard⟩ (by simp) rfl) rfl rfl
          refine op_yes rfl rfl rfl rfl eg ?_
          have e14 : g 14 = .string ⟨x.toArray⟩ := value_u (hd ⟨9, .data⟩ (by simp) rfl) rfl rfl
          generalize hA : mkAct _ _ g = A
          have h14 : A.tmps[14]?.getD undef = .string ⟨x.toArray⟩ := by rw [← hA, mkAct_in2 _ _ _ _ rfl rfl]; exact e14
          have hxa : Ext [] w' (w'.alloc (.cells #[.string ⟨x.toArray⟩] 9)) := (Ext.refl _ _).alloc _
          refine step_val (v := .slice (some ⟨w'.heap.size, 0, none⟩) 1 1) (w' := w'.alloc (.cells #[.string ⟨x.toArray⟩] 9)) ?_ ⟨_, rfl, hJ.1.then0 hxa, fun _ => ⟨w'.heap.size, setU_same _ _ _, Blk.new w' 9 #[str x]⟩, fun h => by obtain ⟨z, ez, hz⟩ := hJ.2.2 (by rw [setU_other _ _ _ _ (by decide)] at h; exact h); exact ⟨z, by rw [setU_other _ _ _ _ (by decide)]; exact ez, Blk.keep hz hxa List.not_mem_nil⟩⟩
          simp [execOp, h14, Result.andThen, go_sem]
        case f11_1a =>
          intro f v g w' hJ hfi hb hd
          refine arm_u rfl ?_
          have eg : g 13 = .bool true := value_u (hd ⟨8, .guard⟩ (by simp) rfl) rfl rfl
          refine op_yes rfl rfl rfl rfl eg ?_
          obtain ⟨hf15, e15⟩ := special_u (hd ⟨10, .data⟩ (by simp) rfl) rfl rfl
          replace e15 : g 15 = v 10 := e15
          obtain ⟨z, ez, hz⟩ := hJ.2.1 hf15
          rw [ez] at e15
          generalize hA : mkAct _ _ g = A
          have h15 : A.tmps[15]?.getD undef = .slice (some ⟨z, 0, none⟩) 1 1 := by rw [← hA, mkAct_in2 _ _ _ _ rfl rfl]; exact e15
          refine float_u (fun K hK => ?_)
          go_simp
          refine (ofStr_any x w' z hz (by omega)).mono ?_
          rintro e w2 ⟨rfl, hx2⟩
          exact hK w2 hx2
        case f12_1a =>
          intro f v g w' hJ hfi hb hd
          refine arm_u rfl ?_
          have eg : g 13 = .bool true := value_u (hd ⟨8, .guard⟩ (by simp) rfl) rfl rfl
          refine op_yes rfl rfl rfl rfl eg ?_
          generalize hA : mkAct _ _ g = A
          have h1 : A.tmps[1]?.getD undef = .pointer (some ⟨P1, 0, none⟩) := by rw [← hA]; exact mkAct_out2 _ _ _ _ _ rfl rfl
          have c := c1 w' hJ.1
          refine step_val (v := .slice (some ⟨zg, zo, none⟩) nk cap) (w' := w') ?_ ⟨rfl, Ext.refl _ _⟩
          simp [execOp, h1, c, Result.andThen, go_sem]
        case f13_1a =>
          intro f v g w' hJ hfi hb hd
          refine arm_u rfl ?_
          have eg : g 13 = .bool true := value_u (hd ⟨8, .guard⟩ (by simp) rfl) rfl rfl
          refine op_yes rfl rfl rfl rfl eg ?_
          generalize hA : mkAct _ _ g = A
          have h2 : A.tmps[2]?.getD undef = .pointer (some ⟨P2, 0, none⟩) := by rw [← hA]; exact mkAct_out2 _ _ _ _ _ rfl rfl
          have c := c2 w' hJ.1
          refine step_val (v := .int .i64 (k : Int)) (w' := w') ?_ ⟨rfl, Ext.refl _ _⟩
          simp [execOp, h2, c, Result.andThen, go_sem]
        case f14_1a =>
          intro f v g w' hJ hfi hb hd
          refine arm_u rfl ?_
          have eg : g 13 = .bool true := value_u (hd ⟨8, .guard⟩ (by simp) rfl) rfl rfl
          refine op_yes rfl rfl rfl rfl eg ?_
          have e17 : g 17 = .slice (some ⟨zg, zo, none⟩) nk cap := value_u (hd ⟨12, .data⟩ (by simp) rfl) rfl rfl
          have e18 : g 18 = .int .i64 (k : Int) := value_u (hd ⟨13, .data⟩ (by simp) rfl) rfl rfl
          generalize hA : mkAct _ _ g = A
          have h17 : A.tmps[17]?.getD undef = .slice (some ⟨zg, zo, none⟩) nk cap := by rw [← hA, mkAct_in2 _ _ _ _ rfl rfl]; exact e17
          have h18 : A.tmps[18]?.getD undef = .int .i64 (k : Int) := by rw [← hA, mkAct_in2 _ _ _ _ rfl rfl]; exact e18
          refine step_val (v := .pointer (some ⟨zg, zo + k, none⟩)) (w' := w') ?_ ⟨rfl, Ext.refl _ _⟩
          simp [execOp, hkl, h17, h18, Result.andThen, go_sem]
          all_goals (first | exact hkl | omega)
        case f15_1a =>
          intro f v g w' hJ hfi hb hd
          refine arm_u rfl ?_
          have eg : g 13 = .bool true := value_u (hd ⟨8, .guard⟩ (by simp) rfl) rfl rfl
          refine op_yes rfl rfl rfl rfl eg ?_
          have e19 : g 19 = .pointer (some ⟨zg, zo + k, none⟩) := value_u (hd ⟨14, .data⟩ (by simp) rfl) rfl rfl
          generalize hA : mkAct _ _ g = A
          have h19 : A.tmps[19]?.getD undef = .pointer (some ⟨zg, zo + k, none⟩) := by rw [← hA, mkAct_in2 _ _ _ _ rfl rfl]; exact e19
          have c := cz w' hJ.1
          refine step_val (v := .string ⟨p.toArray⟩) (w' := w') ?_ ⟨rfl, Ext.refl _ _⟩
          simp [execOp, h19, c, Result.andThen, go_sem]
        case f16_1a =>
          intro f v g w' hJ hfi hb hd
          refine arms_u rfl ?_
          have eg : g 13 = .bool true := value_u (hd ⟨8, .guard⟩ (by simp) rfl) rfl rfl
          refine op_yes rfl rfl rfl rfl eg ?_
          have e20 : g 20 = .string ⟨p.toArray⟩ := value_u (hd ⟨15, .data⟩ (by simp) rfl) rfl rfl
          generalize hA : mkAct _ _ g = A
          have h20 : A.tmps[20]?.getD undef = .string ⟨p.toArray⟩ := by rw [← hA, mkAct_in2 _ _ _ _ rfl rfl]; exact e20
          have hxa : Ext [] w' (w'.alloc (.cells #[.string ⟨p.toArray⟩] 9)) := (Ext.refl _ _).alloc _
          refine step_val (v := .slice (some ⟨w'.heap.size, 0, none⟩) 1 1) (w' := w'.alloc (.cells #[.string ⟨p.toArray⟩] 9)) ?_ ⟨_, rfl, hJ.1.then0 hxa, fun h => by obtain ⟨z, ez, hz⟩ := hJ.2.1 (by rw [setU_other _ _ _ _ (by decide)] at h; exact h); exact ⟨z, by rw [setU_other _ _ _ _ (by decide)]; exact ez, Blk.keep hz hxa List.not_mem_nil⟩, fun _ => ⟨w'.heap.size, setU_same _ _ _, Blk.new w' 9 #[str p]⟩⟩
          simp [execOp, h20, Result.andThen, go_sem]
        case f17_1a =>
          intro f v g w' hJ hfi hb hd
          refine arm_u rfl ?_
          have eg : g 13 = .bool true := value_u (hd ⟨8, .guard⟩ (by simp) rfl) rfl rfl
          refine op_yes rfl rfl rfl rfl eg ?_
          obtain ⟨hf21, e21⟩ := special_u (hd ⟨16, .data⟩ (by simp) rfl) rfl rfl
          replace e21 : g 21 = v 16 := e21
          obtain ⟨z2, ez2, hz2⟩ := hJ.2.2 hf21
          rw [ez2] at e21
          generalize hA : mkAct _ _ g = A
          have h21 : A.tmps[21]?.getD undef = .slice (some ⟨z2, 0, none⟩) 1 1 := by rw [← hA, mkAct_in2 _ _ _ _ rfl rfl]; exact e21
          refine float_u (fun K hK => ?_)
          go_simp
          refine (ofStr_any p w' z2 hz2 (by omega)).mono ?_
          rintro e w2 ⟨rfl, hx2⟩
          exact hK w2 hx2
        case f18_1a =>
          intro f v g w' hJ hfi hb hd
          refine arm_u rfl ?_
          have eg : g 13 = .bool true := value_u (hd ⟨8, .guard⟩ (by simp) rfl) rfl rfl
          refine op_yes rfl rfl rfl rfl eg ?_
          have e16 : g 16 = .int .u32 (u32v (sumOf x)) := value_u (hd ⟨11, .data⟩ (by simp) rfl) rfl rfl
          have e22 : g 22 = .int .u32 (u32v (sumOf p)) := value_u (hd ⟨17, .data⟩ (by simp) rfl) rfl rfl
          generalize hA : mkAct _ _ g = A
          have h16 : A.tmps[16]?.getD undef = .int .u32 (u32v (sumOf x)) := by rw [← hA, mkAct_in2 _ _ _ _ rfl rfl]; exact e16
          have h22 : A.tmps[22]?.getD undef = .int .u32 (u32v (sumOf p)) := by rw [← hA, mkAct_in2 _ _ _ _ rfl rfl]; exact e22
          refine step_val (v := .bool true) (w' := w') ?_ ⟨rfl, Ext.refl _ _⟩
          simp [execOp, eB, h16, h22, Result.andThen, go_sem]
        case f19_1a =>
          intro f v g w' hJ hfi hb hd
          refine arm_u rfl ?_
          refine op_run rfl ?_
          have e13 : g 13 = .bool true := value_u (hd ⟨8, .data⟩ (by simp) rfl) rfl rfl
          have e23 : g 23 = .bool true := value_u (hd ⟨18, .data⟩ (by simp) rfl) rfl rfl
          generalize hA : mkAct _ _ g = A
          have h13 : A.tmps[13]?.getD undef = .bool true := by rw [← hA, mkAct_in2 _ _ _ _ rfl rfl]; exact e13
          have h23 : A.tmps[23]?.getD undef = .bool true := by rw [← hA, mkAct_in2 _ _ _ _ rfl rfl]; exact e23
          refine step_val (v := .bool true) (w' := w') ?_ ⟨rfl, Ext.refl _ _⟩
          simp [execOp, h13, h23, Result.andThen, go_sem]
        case f20_1a =>
          intro f v g w' hJ hfi hb hd
          refine arm_u rfl ?_
          refine op_run rfl ?_
          have e24 : g 24 = .bool true := value_u (hd ⟨19, .data⟩ (by simp) rfl) rfl rfl
          generalize hA : mkAct _ _ g = A
          have h24 : A.tmps[24]?.getD undef = .bool true := by rw [← hA, mkAct_in2 _ _ _ _ rfl rfl]; exact e24
          refine step_val (v := .bool true) (w' := w') ?_ ⟨rfl, Ext.refl _ _⟩
          simp [execOp, h24, Result.andThen, go_sem]
      intro f v g wn hJ hk
      have e4 : g 4 = .bool true := value_u (hk 20 (by decide)) rfl rfl
      have hxe := hJ.1
      clear hk hJ
      unfold mkAct; simp only [List.zipIdx_cons, List.zipIdx_nil, List.map_cons, List.map_nil, Nat.zero_add, Nat.reduceAdd, List.contains_cons, List.contains_nil, Nat.reduceBEq, Bool.or_false, Bool.or_true, ↓reduceIte, Bool.false_eq_true]
      rw [e4]
      go_wp2
      go_ret
      exact ⟨by rw [HLT.out]; rfl, hxe⟩
    · have HLT : Hid (likeB x p = false) := Hid.of (by rw [HL.out]; exact decide_eq_false hB)
      generalize likeB x p = lk at HLT ⊢
      have eB : ¬ u32v (sumOf x) = u32v (sumOf p) := fun h => hB (u32v_inj.1 h)
      clear HL hB
      go_enter Try.func17, Try.ntmps17
      go_upto_region 1 with fail
      refine wp_region_u [5, 6, 7, 8, 9, 10, 11, 12, 13, 14, 15, 16, 17, 18, 19, 20, 21, 22, 23, 24, 4] [10, 16] (fun n => match n with | 0 => .string ⟨x.toArray⟩ | 1 => .int .i64 (x.length : Int) | 2 => .slice (some ⟨zg, zo, none⟩) nk cap | 3 => .int .i64 (k : Int) | 4 => .pointer (some ⟨zg, zo + k, none⟩) | 5 => .string ⟨p.toArray⟩ | 6 => .int .i64 (p.length : Int) | 7 => .bool true | 8 => .bool true | 9 => .string ⟨x.toArray⟩ | 11 => .int .u32 (u32v (sumOf x)) | 12 => .slice (some ⟨zg, zo, none⟩) nk cap | 13 => .int .i64 (k : Int) | 14 => .pointer (some ⟨zg, zo + k, none⟩) | 15 => .string ⟨p.toArray⟩ | 17 => .int .u32 (u32v (sumOf p)) | 18 => .bool false | 19 => .bool false | 20 => .bool false | _ => undef) (fun f v wx => Ext [] w wx ∧ (f 10 = true → ∃ z, v 10 = .slice (some ⟨z, 0, none⟩) 1 1 ∧ Blk wx z 9 [str x]) ∧ (f 16 = true → ∃ z, v 16 = .slice (some ⟨z, 0, none⟩) 1 1 ∧ Blk wx z 9 [str p])) (by kernel_rfl) (by kernel_rfl) ?hst0_1b ?h00_1b ?hst_1b ?hend_1b
      case hst0_1b =>
        rintro f v w w' ⟨hx, j1, j2⟩ hx2
        refine ⟨hx.then0 hx2, fun h => ?_, fun h => ?_⟩
        · obtain ⟨z, ez, hz⟩ := j1 h
          exact ⟨z, ez, Blk.keep hz hx2 List.not_mem_nil⟩
        · obtain ⟨z, ez, hz⟩ := j2 h
          exact ⟨z, ez, Blk.keep hz hx2 List.not_mem_nil⟩
      case h00_1b =>
        exact ⟨Ext.refl _ _, fun h => (by cases h), fun h => (by cases h)⟩
      case hst_1b =>
        refine ⟨?f0_1b, ?f1_1b, ?f2_1b, ?f3_1b, ?f4_1b, ?f5_1b, ?f6_1b, ?f7_1b, ?f8_1b, ?f9_1b, ?f10_1b, ?f11_1b, ?f12_1b, ?f13_1b, ?f14_1b, ?f15_1b, ?f16_1b, ?f17_1b, ?f18_1b, ?f19_1b, ?f20_1b, trivial⟩
        case f0_1b =>
          intro f v g w' hJ hfi hb hd
          refine arm_u rfl ?_
          refine op_run rfl ?_
          generalize hA : mkAct _ _ g = A
          have h0 : A.tmps[0]?.getD undef = .string ⟨x.toArray⟩ := by rw [← hA]; exact mkAct_out2 _ _ _ _ _ rfl rfl
          refine step_val (v := .string ⟨x.toArray⟩) (w' := w') ?_ ⟨rfl, Ext.refl _ _⟩
          simp [execOp, h0, Result.andThen, go_sem]
        case f1_1b =>
          intro f v g w' hJ hfi hb hd
          refine arm_u rfl ?_
          refine op_run rfl ?_
          have e5 : g 5 = .string ⟨x.toArray⟩ := value_u (hd ⟨0, .data⟩ (by simp) rfl) rfl rfl
          generalize hA : mkAct _ _ g = A
          have h5 : A.tmps[5]?.getD undef = .string ⟨x.toArray⟩ := by rw [← hA, mkAct_in2 _ _ _ _ rfl rfl]; exact e5
          refine step_val (v := .int .i64 (x.length : Int)) (w' := w') ?_ ⟨rfl, Ext.refl _ _⟩
          simp [execOp, h5, Result.andThen, go_sem]
        case f2_1b =>
          intro f v g w' hJ hfi hb hd
          refine arm_u rfl ?_
          refine op_run rfl ?_
          generalize hA : mkAct _ _ g = A
          have h1 : A.tmps[1]?.getD undef = .pointer (some ⟨P1, 0, none⟩) := by rw [← hA]; exact mkAct_out2 _ _ _ _ _ rfl rfl
          have c := c1 w' hJ.1
          refine step_val (v := .slice (some ⟨zg, zo, none⟩) nk cap) (w' := w') ?_ ⟨rfl, Ext.refl _ _⟩
          simp [execOp, h1, c, Result.andThen, go_sem]
        case f3_1b =>
          intro f v g w' hJ hfi hb hd
          refine arm_u rfl ?_
          refine op_run rfl ?_
          generalize hA : mkAct _ _ g = A
          have h2 : A.tmps[2]?.getD undef = .pointer (some ⟨P2, 0, none⟩) := by rw [← hA]; exact mkAct_out2 _ _ _ _ _ rfl rfl
          have c := c2 w' hJ.1
          refine step_val (v := .int .i64 (k : Int)) (w' := w') ?_ ⟨rfl, Ext.refl _ _⟩
          simp [execOp, h2, c, Result.andThen, go_sem]
        case f4_1b =>
          intro f v g w' hJ hfi hb hd
          refine arm_u rfl ?_
          refine op_run rfl ?_
          have e7 : g 7 = .slice (some ⟨zg, zo, none⟩) nk cap := value_u (hd ⟨2, .data⟩ (by simp) rfl) rfl rfl
          have e8 : g 8 = .int .i64 (k : Int) := value_u (hd ⟨3, .data⟩ (by simp) rfl) rfl rfl
          generalize hA : mkAct _ _ g = A
          have h7 : A.tmps[7]?.getD undef = .slice (some ⟨zg, zo, none⟩) nk cap := by rw [← hA, mkAct_in2 _ _ _ _ rfl rfl]; exact e7
          have h8 : A.tmps[8]?.getD undef = .int .i64 (k : Int) := by rw [← hA, mkAct_in2 _ _ _ _ rfl rfl]; exact e8
          refine step_val (v := .pointer (some ⟨zg, zo + k, none⟩)) (w' := w') ?_ ⟨rfl, Ext.refl _ _⟩
          simp [execOp, hkl, h7, h8, Result.andThen, go_sem]
          all_goals (first | exact hkl | omega)
        case f5_1b =>
          intro f v g w' hJ hfi hb hd
          refine arm_u rfl ?_
          refine op_run rfl ?_
          have e9 : g 9 = .pointer (some ⟨zg, zo + k, none⟩) := value_u (hd ⟨4, .data⟩ (by simp) rfl) rfl rfl
          generalize hA : mkAct _ _ g = A
          have h9 : A.tmps[9]?.getD undef = .pointer (some ⟨zg, zo + k, none⟩) := by rw [← hA, mkAct_in2 _ _ _ _ rfl rfl]; exact e9
          have c := cz w' hJ.1
          refine step_val (v := .string ⟨p.toArray⟩) (w' := w') ?_ ⟨rfl, Ext.refl _ _⟩
          simp [execOp, h9, c, Result.andThen, go_sem]
        case f6_1b =>
          intro f v g w' hJ hfi hb hd
          refine arm_u rfl ?_
          refine op_run rfl ?_
          have e10 : g 10 = .string ⟨p.toArray⟩ := value_u (hd ⟨5, .data⟩ (by simp) rfl) rfl rfl
          generalize hA : mkAct _ _ g = A
          have h10 : A.tmps[10]?.getD undef = .string ⟨p.toArray⟩ := by rw [← hA, mkAct_in2 _ _ _ _ rfl rfl]; exact e10
          refine step_val (v := .int .i64 (p.length : Int)) (w' := w') ?_ ⟨rfl, Ext.refl _ _⟩
          simp [execOp, h10, Result.andThen, go_sem]
        case f7_1b =>
          intro f v g w' hJ hfi hb hd
          refine arm_u rfl ?_
          refine op_run rfl ?_
          have e6 : g 6 = .int .i64 (x.length : Int) := value_u (hd ⟨1, .data⟩ (by simp) rfl) rfl rfl
          have e11 : g 11 = .int .i64 (p.length : Int) := value_u (hd ⟨6, .data⟩ (by simp) rfl) rfl rfl
          generalize hA : mkAct _ _ g = A
          have h6 : A.tmps[6]?.getD undef = .int .i64 (x.length : Int) := by rw [← hA, mkAct_in2 _ _ _ _ rfl rfl]; exact e6
          have h11 : A.tmps[11]?.getD undef = .int .i64 (p.length : Int) := by rw [← hA, mkAct_in2 _ _ _ _ rfl rfl]; exact e11
          refine step_val (v := .bool true) (w' := w') ?_ ⟨rfl, Ext.refl _ _⟩
          simp [execOp, eA, h6, h11, Result.andThen, go_sem]
        case f8_1b =>
          intro f v g w' hJ hfi hb hd
          refine arm_u rfl ?_
          refine op_run rfl ?_
          have e12 : g 12 = .bool true := value_u (hd ⟨7, .data⟩ (by simp) rfl) rfl rfl
          generalize hA : mkAct _ _ g = A
          have h12 : A.tmps[12]?.getD undef = .bool true := by rw [← hA, mkAct_in2 _ _ _ _ rfl rfl]; exact e12
          refine step_val (v := .bool true) (w' := w') ?_ ⟨rfl, Ext.refl _ _⟩
          simp [execOp, h12, Result.andThen, go_sem]
        case f9_1b =>
          intro f v g w' hJ hfi hb hd
          refine arm_u rfl ?_
          have eg : g 13 = .bool true := value_u (hd ⟨8, .guard⟩ (by simp) rfl) rfl rfl
          refine op_yes rfl rfl rfl rfl eg ?_
          generalize hA : mkAct _ _ g = A
          have h0 : A.tmps[0]?.getD undef = .string ⟨x.toArray⟩ := by rw [← hA]; exact mkAct_out2 _ _ _ _ _ rfl rfl
          refine step_val (v := .string ⟨x.toArray⟩) (w' := w') ?_ ⟨rfl, Ext.refl _ _⟩
          simp [execOp, h0, Result.andThen, go_sem]
        case f10_1b =>
          intro f v g w' hJ hfi hb hd
          refine arms_u rfl ?_
          have eg : g 13 = .bool true := value_u (hd ⟨8, .guard⟩ (by simp) rfl) rfl rfl
          refine op_yes rfl rfl rfl rfl eg ?_
          have e14 : g 14 = .string ⟨x.toArray⟩ := value_u (hd ⟨9, .data⟩ (by simp) rfl) rfl rfl
          generalize hA : mkAct _ _ g = A
          have h14 : A.tmps[14]?.getD undef = .string ⟨x.toArray⟩ := by rw [← hA, mkAct_in2 _ _ _ _ rfl rfl]; exact e14
          have hxa : Ext [] w' (w'.alloc (.cells #[.string ⟨x.toArray⟩] 9)) := (Ext.refl _ _).alloc _
          refine step_val (v := .slice (some ⟨w'.heap.size, 0, none⟩) 1 1) (w' := w'.alloc (.cells #[.string ⟨x.toArray⟩] 9)) ?_ ⟨_, rfl, hJ.1.then0 hxa, fun _ => ⟨w'.heap.size, setU_same _ _ _, Blk.new w' 9 #[str x]⟩, fun h => by obtain ⟨z, ez, hz⟩ := hJ.2.2 (by rw [setU_other _ _ _ _ (by decide)] at h; exact h); exact ⟨z, by rw [setU_other _ _ _ _ (by decide)]; exact ez, Blk.keep hz hxa List.not_mem_nil⟩⟩
          simp [execOp, h14, Result.andThen, go_sem]
        case f11_1b =>
          intro f v g w' hJ hfi hb hd
          refine arm_u rfl ?_
          have eg : g 13 = .bool true := value_u (hd ⟨8, .guard⟩ (by simp) rfl) rfl rfl
          refine op_yes rfl rfl rfl rfl eg ?_
          obtain ⟨hf15, e15⟩ := special_u (hd ⟨10, .data⟩ (by simp) rfl) rfl rfl
          replace e15 : g 15 = v 10 := e15
          obtain ⟨z, ez, hz⟩ := hJ.2.1 hf15
          rw [ez] at e15
          generalize hA : mkAct _ _ g = A
          have h15 : A.tmps[15]?.getD undef = .slice (some ⟨z, 0, none⟩) 1 1 := by rw [← hA, mkAct_in2 _ _ _ _ rfl rfl]; exact e15
          refine float_u (fun K hK => ?_)
          go_simp
          refine (ofStr_any x w' z hz (by omega)).mono ?_
          rintro e w2 ⟨rfl, hx2⟩
          exact hK w2 hx2
        case f12_1b =>
          intro f v g w' hJ hfi hb hd
          refine arm_u rfl ?_
          have eg : g 13 = .bool true := value_u (hd ⟨8, .guard⟩ (by simp) rfl) rfl rfl
          refine op_yes rfl rfl rfl rfl eg ?_
          generalize hA : mkAct _ _ g = A
          have h1 : A.tmps[1]?.getD undef = .pointer (some ⟨P1, 0, none⟩) := by rw [← hA]; exact mkAct_out2 _ _ _ _ _ rfl rfl
          have c := c1 w' hJ.1
          refine step_val (v := .slice (some ⟨zg, zo, none⟩) nk cap) (w' := w') ?_ ⟨rfl, Ext.refl _ _⟩
          simp [execOp, h1, c, Result.andThen, go_sem]
        case f13_1b =>
          intro f v g w' hJ hfi hb hd
          refine arm_u rfl ?_
          have eg : g 13 = .bool true := value_u (hd ⟨8, .guard⟩ (by simp) rfl) rfl rfl
          refine op_yes rfl rfl rfl rfl eg ?_
          generalize hA : mkAct _ _ g = A
          have h2 : A.tmps[2]?.getD undef = .pointer (some ⟨P2, 0, none⟩) := by rw [← hA]; exact mkAct_out2 _ _ _ _ _ rfl rfl
          have c := c2 w' hJ.1
          refine step_val (v := .int .i64 (k : Int)) (w' := w') ?_ ⟨rfl, Ext.refl _ _⟩
          simp [execOp, h2, c, Result.andThen, go_sem]
        case f14_1b =>
          intro f v g w' hJ hfi hb hd
          refine arm_u rfl ?_
          have eg : g 13 = .bool true := value_u (hd ⟨8, .guard⟩ (by simp) rfl) rfl rfl
          refine op_yes rfl rfl rfl rfl eg ?_
          have e17 : g 17 = .slice (some ⟨zg, zo, none⟩) nk cap := value_u (hd ⟨12, .data⟩ (by simp) rfl) rfl rfl
          have e18 : g 18 = .int .i64 (k : Int) := value_u (hd ⟨13, .data⟩ (by simp) rfl) rfl rfl
          generalize hA : mkAct _ _ g = A
          have h17 : A.tmps[17]?.getD undef = .slice (some ⟨zg, zo, none⟩) nk cap := by rw [← hA, mkAct_in2 _ _ _ _ rfl rfl]; exact e17
          have h18 : A.tmps[18]?.getD undef = .int .i64 (k : Int) := by rw [← hA, mkAct_in2 _ _ _ _ rfl rfl]; exact e18
          refine step_val (v := .pointer (some ⟨zg, zo + k, none⟩)) (w' := w') ?_ ⟨rfl, Ext.refl _ _⟩
          simp [execOp, hkl, h17, h18, Result.andThen, go_sem]
          all_goals (first | exact hkl | omega)
        case f15_1b =>
          intro f v g w' hJ hfi hb hd
          refine arm_u rfl ?_
          have eg : g 13 = .bool true := value_u (hd ⟨8, .guard⟩ (by simp) rfl) rfl rfl
          refine op_yes rfl rfl rfl rfl eg ?_
          have e19 : g 19 = .pointer (some ⟨zg, zo + k, none⟩) := value_u (hd ⟨14, .data⟩ (by simp) rfl) rfl rfl
          generalize hA : mkAct _ _ g = A
          have h19 : A.tmps[19]?.getD undef = .pointer (some ⟨zg, zo + k, none⟩) := by rw [← hA, mkAct_in2 _ _ _ _ rfl rfl]; exact e19
          have c := cz w' hJ.1
          refine step_val (v := .string ⟨p.toArray⟩) (w' := w') ?_ ⟨rfl, Ext.refl _ _⟩
          simp [execOp, h19, c, Result.andThen, go_sem]
        case f16_1b =>
          intro f v g w' hJ hfi hb hd
          refine arms_u rfl ?_
          have eg : g 13 = .bool true := value_u (hd ⟨8, .guard⟩ (by simp) rfl) rfl rfl
          refine op_yes rfl rfl rfl rfl eg ?_
          have e20 : g 20 = .string ⟨p.toArray⟩ := value_u (hd ⟨15, .data⟩ (by simp) rfl) rfl rfl
          generalize hA : mkAct _ _ g = A
          have h20 : A.tmps[20]?.getD undef = .string ⟨p.toArray⟩ := by rw [← hA, mkAct_in2 _ _ _ _ rfl rfl]; exact e20
          have hxa : Ext [] w' (w'.alloc (.cells #[.string ⟨p.toArray⟩] 9)) := (Ext.refl _ _).alloc _
          refine step_val (v := .slice (some ⟨w'.heap.size, 0, none⟩) 1 1) (w' := w'.alloc (.cells #[.string ⟨p.toArray⟩] 9)) ?_ ⟨_, rfl, hJ.1.then0 hxa, fun h => by obtain ⟨z, ez, hz⟩ := hJ.2.1 (by rw [setU_other _ _ _ _ (by decide)] at h; exact h); exact ⟨z, by rw [setU_other _ _ _ _ (by decide)]; exact ez, Blk.keep hz hxa List.not_mem_nil⟩, fun _ => ⟨w'.heap.size, setU_same _ _ _, Blk.new w' 9 #[str p]⟩⟩
          simp [execOp, h20, Result.andThen, go_sem]
        case f17_1b =>
          intro f v g w' hJ hfi hb hd
          refine arm_u rfl ?_
          have eg : g 13 = .bool true := value_u (hd ⟨8, .guard⟩ (by simp) rfl) rfl rfl
          refine op_yes rfl rfl rfl rfl eg ?_
          obtain ⟨hf21, e21⟩ := special_u (hd ⟨16, .data⟩ (by simp) rfl) rfl rfl
          replace e21 : g 21 = v 16 := e21
          obtain ⟨z2, ez2, hz2⟩ := hJ.2.2 hf21
          rw [ez2] at e21
          generalize hA : mkAct _ _ g = A
          have h21 : A.tmps[21]?.getD undef = .slice (some ⟨z2, 0, none⟩) 1 1 := by rw [← hA, mkAct_in2 _ _ _ _ rfl rfl]; exact e21
          refine float_u (fun K hK => ?_)
          go_simp
          refine (ofStr_any p w' z2 hz2 (by omega)).mono ?_
          rintro e w2 ⟨rfl, hx2⟩
          exact hK w2 hx2
        case f18_1b =>
          intro f v g w' hJ hfi hb hd
          refine arm_u rfl ?_
          have eg : g 13 = .bool true := value_u (hd ⟨8, .guard⟩ (by simp) rfl) rfl rfl
          refine op_yes rfl rfl rfl rfl eg ?_
          have e16 : g 16 = .int .u32 (u32v (sumOf x)) := value_u (hd ⟨11, .data⟩ (by simp) rfl) rfl rfl
          have e22 : g 22 = .int .u32 (u32v (sumOf p)) := value_u (hd ⟨17, .data⟩ (by simp) rfl) rfl rfl
          generalize hA : mkAct _ _ g = A
          have h16 : A.tmps[16]?.getD undef = .int .u32 (u32v (sumOf x)) := by rw [← hA, mkAct_in2 _ _ _ _ rfl rfl]; exact e16
          have h22 : A.tmps[22]?.getD undef = .int .u32 (u32v (sumOf p)) := by rw [← hA, mkAct_in2 _ _ _ _ rfl rfl]; exact e22
          refine step_val (v := .bool false) (w' := w') ?_ ⟨rfl, Ext.refl _ _⟩
          simp [execOp, eB, h16, h22, Result.andThen, go_sem]
        case f19_1b =>
          intro f v g w' hJ hfi hb hd
          refine arm_u rfl ?_
          refine op_run rfl ?_
          have e13 : g 13 = .bool true := value_u (hd ⟨8, .data⟩ (by simp) rfl) rfl rfl
          have e23 : g 23 = .bool false := value_u (hd ⟨18, .data⟩ (by simp) rfl) rfl rfl
          generalize hA : mkAct _ _ g = A
          have h13 : A.tmps[13]?.getD undef = .bool true := by rw [← hA, mkAct_in2 _ _ _ _ rfl rfl]; exact e13
          have h23 : A.tmps[23]?.getD undef = .bool false := by rw [← hA, mkAct_in2 _ _ _ _ rfl rfl]; exact e23
          refine step_val (v := .bool false) (w' := w') ?_ ⟨rfl, Ext.refl _ _⟩
          simp [execOp, h13, h23, Result.andThen, go_sem]
        case f20_1b =>
          intro f v g w' hJ hfi hb hd
          refine arm_u rfl ?_
          refine op_run rfl ?_
          have e24 : g 24 = .bool false := value_u (hd ⟨19, .data⟩ (by simp) rfl) rfl rfl
          generalize hA : mkAct _ _ g = A
          have h24 : A.tmps[24]?.getD undef = .bool false := by rw [← hA, mkAct_in2 _ _ _ _ rfl rfl]; exact e24
          refine step_val (v := .bool false) (w' := w') ?_ ⟨rfl, Ext.refl _ _⟩
          simp [execOp, h24, Result.andThen, go_sem]
      intro f v g wn hJ hk
      have e4 : g 4 = .bool false := value_u (hk 20 (by decide)) rfl rfl
      have hxe := hJ.1
      clear hk hJ
      unfold mkAct; simp only [List.zipIdx_cons, List.zipIdx_nil, List.map_cons, List.map_nil, Nat.zero_add, Nat.reduceAdd, List.contains_cons, List.contains_nil, Nat.reduceBEq, Bool.or_false, Bool.or_true, ↓reduceIte, Bool.false_eq_true]
      rw [e4]
      go_wp2
      go_ret
      exact ⟨by rw [HLT.out]; rfl, hxe⟩
  · have eA : ((x.length : Int) == (p.length : Int)) = false := beq_false_of_ne (by omega)
    have HLT : Hid (likeB x p = false) := Hid.of (by unfold likeB; simp [hA])
    generalize likeB x p = lk at HLT ⊢
    go_enter Try.func17, Try.ntmps17
    go_upto_region 1 with fail
    refine wp_region_u [5, 6, 7, 8, 9, 10, 11, 12, 13, 14, 15, 16, 17, 18, 19, 20, 21, 22, 23, 24, 4] [] (fun n => match n with | 0 => .string ⟨x.toArray⟩ | 1 => .int .i64 (x.length : Int) | 2 => .slice (some ⟨zg, zo, none⟩) nk cap | 3 => .int .i64 (k : Int) | 4 => .pointer (some ⟨zg, zo + k, none⟩) | 5 => .string ⟨p.toArray⟩ | 6 => .int .i64 (p.length : Int) | 7 => .bool false | 8 => .bool false | 9 => undef | 10 => undef | 11 => undef | 12 => undef | 13 => undef | 14 => undef | 15 => undef | 16 => undef | 17 => undef | 18 => undef | 19 => .bool false | 20 => .bool false | _ => undef) (fun f v wx => Ext [] w wx) (by kernel_rfl) (by kernel_rfl) ?hst0_1c ?h00_1c ?hst_1c ?hend_1c
    case hst0_1c =>
      exact fun f v w w' h hx => h.then0 hx
    case h00_1c =>
      exact Ext.refl _ _
    case hst_1c =>
      refine ⟨?f0_1c, ?f1_1c, ?f2_1c, ?f3_1c, ?f4_1c, ?f5_1c, ?f6_1c, ?f7_1c, ?f8_1c, ?f9_1c, ?f10_1c, ?f11_1c, ?f12_1c, ?f13_1c, ?f14_1c, ?f15_1c, ?f16_1c, ?f17_1c, ?f18_1c, ?f19_1c, ?f20_1c, trivial⟩
      case f0_1c =>
        intro f v g w' hJ hfi hb hd
        refine arm_u rfl ?_
        refine op_run rfl ?_
        generalize hA : mkAct _ _ g = A
        have h0 : A.tmps[0]?.getD undef = .string ⟨x.toArray⟩ := by rw [← hA]; exact mkAct_out2 _ _ _ _ _ rfl rfl
        refine step_val (v := .string ⟨x.toArray⟩) (w' := w') ?_ ⟨rfl, Ext.refl _ _⟩
        simp [execOp, h0, Result.andThen, go_sem]
      case f1_1c =>
        intro f v g w' hJ hfi hb hd
        refine arm_u rfl ?_
        refine op_run rfl ?_
        have e5 : g 5 = .string ⟨x.toArray⟩ := value_u (hd ⟨0, .data⟩ (by simp) rfl) rfl rfl
        generalize hA : mkAct _ _ g = A
        have h5 : A.tmps[5]?.getD undef = .string ⟨x.toArray⟩ := by rw [← hA, mkAct_in2 _ _ _ _ rfl rfl]; exact e5
        refine step_val (v := .int .i64 (x.length : Int)) (w' := w') ?_ ⟨rfl, Ext.refl _ _⟩
        simp [execOp, h5, Result.andThen, go_sem]
      case f2_1c =>
        intro f v g w' hJ hfi hb hd
        refine arm_u rfl ?_
        refine op_run rfl ?_
        generalize hA : mkAct _ _ g = A
        have h1 : A.tmps[1]?.getD undef = .pointer (some ⟨P1, 0, none⟩) := by rw [← hA]; exact mkAct_out2 _ _ _ _ _ rfl rfl
        have c := c1 w' hJ
        refine step_val (v := .slice (some ⟨zg, zo, none⟩) nk cap) (w' := w') ?_ ⟨rfl, Ext.refl _ _⟩
        simp [execOp, h1, c, Result.andThen, go_sem]
      case f3_1c =>
        intro f v g w' hJ hfi hb hd
        refine arm_u rfl ?_
        refine op_run rfl ?_
        generalize hA : mkAct _ _ g = A
        have h2 : A.tmps[2]?.getD undef = .pointer (some ⟨P2, 0, none⟩) := by rw [← hA]; exact mkAct_out2 _ _ _ _ _ rfl rfl
        have c := c2 w' hJ
        refine step_val (v := .int .i64 (k : Int)) (w' := w') ?_ ⟨rfl, Ext.refl _ _⟩
        simp [execOp, h2, c, Result.andThen, go_sem]
      case f4_1c =>
        intro f v g w' hJ hfi hb hd
        refine arm_u rfl ?_
        refine op_run rfl ?_
        have e7 : g 7 = .slice (some ⟨zg, zo, none⟩) nk cap := value_u (hd ⟨2, .data⟩ (by simp) rfl) rfl rfl
        have e8 : g 8 = .int .i64 (k : Int) := value_u (hd ⟨3, .data⟩ (by simp) rfl) rfl rfl
        generalize hA : mkAct _ _ g = A
        have h7 : A.tmps[7]?.getD undef = .slice (some ⟨zg, zo, none⟩) nk cap := by rw [← hA, mkAct_in2 _ _ _ _ rfl rfl]; exact e7
        have h8 : A.tmps[8]?.getD undef = .int .i64 (k : Int) := by rw [← hA, mkAct_in2 _ _ _ _ rfl rfl]; exact e8
        refine step_val (v := .pointer (some ⟨zg, zo + k, none⟩)) (w' := w') ?_ ⟨rfl, Ext.refl _ _⟩
        simp [execOp, hkl, h7, h8, Result.andThen, go_sem]
        all_goals (first | exact hkl | omega)
      case f5_1c =>
        intro f v g w' hJ hfi hb hd
        refine arm_u rfl ?_
        refine op_run rfl ?_
        have e9 : g 9 = .pointer (some ⟨zg, zo + k, none⟩) := value_u (hd ⟨4, .data⟩ (by simp) rfl) rfl rfl
        generalize hA : mkAct _ _ g = A
        have h9 : A.tmps[9]?.getD undef = .pointer (some ⟨zg, zo + k, none⟩) := by rw [← hA, mkAct_in2 _ _ _ _ rfl rfl]; exact e9
        have c := cz w' hJ
        refine step_val (v := .string ⟨p.toArray⟩) (w' := w') ?_ ⟨rfl, Ext.refl _ _⟩
        simp [execOp, h9, c, Result.andThen, go_sem]
      case f6_1c =>
        intro f v g w' hJ hfi hb hd
        refine arm_u rfl ?_
        refine op_run rfl ?_
        have e10 : g 10 = .string ⟨p.toArray⟩ := value_u (hd ⟨5, .data⟩ (by simp) rfl) rfl rfl
        generalize hA : mkAct _ _ g = A
        have h10 : A.tmps[10]?.getD undef = .string ⟨p.toArray⟩ := by rw [← hA, mkAct_in2 _ _ _ _ rfl rfl]; exact e10
        refine step_val (v := .int .i64 (p.length : Int)) (w' := w') ?_ ⟨rfl, Ext.refl _ _⟩
        simp [execOp, h10, Result.andThen, go_sem]
      case f7_1c =>
        intro f v g w' hJ hfi hb hd
        refine arm_u rfl ?_
        refine op_run rfl ?_
        have e6 : g 6 = .int .i64 (x.length : Int) := value_u (hd ⟨1, .data⟩ (by simp) rfl) rfl rfl
        have e11 : g 11 = .int .i64 (p.length : Int) := value_u (hd ⟨6, .data⟩ (by simp) rfl) rfl rfl
        generalize hA : mkAct _ _ g = A
        have h6 : A.tmps[6]?.getD undef = .int .i64 (x.length : Int) := by rw [← hA, mkAct_in2 _ _ _ _ rfl rfl]; exact e6
        have h11 : A.tmps[11]?.getD undef = .int .i64 (p.length : Int) := by rw [← hA, mkAct_in2 _ _ _ _ rfl rfl]; exact e11
        refine step_val (v := .bool false) (w' := w') ?_ ⟨rfl, Ext.refl _ _⟩
        simp [execOp, eA, h6, h11, Result.andThen, go_sem]
      case f8_1c =>
        intro f v g w' hJ hfi hb hd
        refine arm_u rfl ?_
        refine op_run rfl ?_
        have e12 : g 12 = .bool false := value_u (hd ⟨7, .data⟩ (by simp) rfl) rfl rfl
        generalize hA : mkAct _ _ g = A
        have h12 : A.tmps[12]?.getD undef = .bool false := by rw [← hA, mkAct_in2 _ _ _ _ rfl rfl]; exact e12
        refine step_val (v := .bool false) (w' := w') ?_ ⟨rfl, Ext.refl _ _⟩
        simp [execOp, h12, Result.andThen, go_sem]
      case f9_1c =>
        intro f v g w' hJ hfi hb hd
        refine arm_u rfl ?_
        have eg : g 13 = .bool false := value_u (hd ⟨8, .guard⟩ (by simp) rfl) rfl rfl
        exact op_no rfl rfl rfl rfl false eg (by decide) ⟨rfl, Ext.refl _ _⟩
      case f10_1c =>
        intro f v g w' hJ hfi hb hd
        refine arm_u rfl ?_
        have eg : g 13 = .bool false := value_u (hd ⟨8, .guard⟩ (by simp) rfl) rfl rfl
        exact op_no rfl rfl rfl rfl false eg (by decide) ⟨rfl, Ext.refl _ _⟩
      case f11_1c =>
        intro f v g w' hJ hfi hb hd
        refine arm_u rfl ?_
        have eg : g 13 = .bool false := value_u (hd ⟨8, .guard⟩ (by simp) rfl) rfl rfl
        exact op_no rfl rfl rfl rfl false eg (by decide) ⟨rfl, Ext.refl _ _⟩
      case f12_1c =>
        intro f v g w' hJ hfi hb hd
        refine arm_u rfl ?_
        have eg : g 13 = .bool false := value_u (hd ⟨8, .guard⟩ (by simp) rfl) rfl rfl
        exact op_no rfl rfl rfl rfl false eg (by decide) ⟨rfl, Ext.refl _ _⟩
      case f13_1c =>
        intro f v g w' hJ hfi hb hd
        refine arm_u rfl ?_
        have eg : g 13 = .bool false := value_u (hd ⟨8, .guard⟩ (by simp) rfl) rfl rfl
        exact op_no rfl rfl rfl rfl false eg (by decide) ⟨rfl, Ext.refl _ _⟩
      case f14_1c =>
        intro f v g w' hJ hfi hb hd
        refine arm_u rfl ?_
        have eg : g 13 = .bool false := value_u (hd ⟨8, .guard⟩ (by simp) rfl) rfl rfl
        exact op_no rfl rfl rfl rfl false eg (by decide) ⟨rfl, Ext.refl _ _⟩
      case f15_1c =>
        intro f v g w' hJ hfi hb hd
        refine arm_u rfl ?_
        have eg : g 13 = .bool false := value_u (hd ⟨8, .guard⟩ (by simp) rfl) rfl rfl
        exact op_no rfl rfl rfl rfl false eg (by decide) ⟨rfl, Ext.refl _ _⟩
      case f16_1c =>
        intro f v g w' hJ hfi hb hd
        refine arm_u rfl ?_
        have eg : g 13 = .bool false := value_u (hd ⟨8, .guard⟩ (by simp) rfl) rfl rfl
        exact op_no rfl rfl rfl rfl false eg (by decide) ⟨rfl, Ext.refl _ _⟩
      case f17_1c =>
        intro f v g w' hJ hfi hb hd
        refine arm_u rfl ?_
        have eg : g 13 = .bool false := value_u (hd ⟨8, .guard⟩ (by simp) rfl) rfl rfl
        exact op_no rfl rfl rfl rfl false eg (by decide) ⟨rfl, Ext.refl _ _⟩
      case f18_1c =>
        intro f v g w' hJ hfi hb hd
        refine arm_u rfl ?_
        have eg : g 13 = .bool false := value_u (hd ⟨8, .guard⟩ (by simp) rfl) rfl rfl
        exact op_no rfl rfl rfl rfl false eg (by decide) ⟨rfl, Ext.refl _ _⟩
      case f19_1c =>
        intro f v g w' hJ hfi hb hd
        refine arm_u rfl ?_
        refine op_run rfl ?_
        have e13 : g 13 = .bool false := value_u (hd ⟨8, .data⟩ (by simp) rfl) rfl rfl
        have e23 : g 23 = undef := value_u (hd ⟨18, .data⟩ (by simp) rfl) rfl rfl
        generalize hA : mkAct _ _ g = A
        have h13 : A.tmps[13]?.getD undef = .bool false := by rw [← hA, mkAct_in2 _ _ _ _ rfl rfl]; exact e13
        have h23 : A.tmps[23]?.getD undef = undef := by rw [← hA, mkAct_in2 _ _ _ _ rfl rfl]; exact e23
        refine step_val (v := .bool false) (w' := w') ?_ ⟨rfl, Ext.refl _ _⟩
        simp [execOp, h13, h23, Result.andThen, go_sem]
      case f20_1c =>
        intro f v g w' hJ hfi hb hd
        refine arm_u rfl ?_
        refine op_run rfl ?_
        have e24 : g 24 = .bool false := value_u (hd ⟨19, .data⟩ (by simp) rfl) rfl rfl
        generalize hA : mkAct _ _ g = A
        have h24 : A.tmps[24]?.getD undef = .bool false := by rw [← hA, mkAct_in2 _ _ _ _ rfl rfl]; exact e24
        refine step_val (v := .bool false) (w' := w') ?_ ⟨rfl, Ext.refl _ _⟩
        simp [execOp, h24, Result.andThen, go_sem]
    intro f v g wn hJ hk
    have e4 : g 4 = .bool false := value_u (hk 20 (by decide)) rfl rfl
    have hxe := hJ
    clear hk hJ
    unfold mkAct; simp only [List.zipIdx_cons, List.zipIdx_nil, List.map_cons, List.map_nil, Nat.zero_add, Nat.reduceAdd, List.contains_cons, List.contains_nil, Nat.reduceBEq, Bool.or_false, Bool.or_true, ↓reduceIte, Bool.false_eq_true]
    rw [e4]
    go_wp2
    go_ret
    exact ⟨by rw [HLT.out]; rfl, hxe⟩

/-- Mend on a device that is fine. -/
theorem mend_fine {D : Dv} {n : Int} {V : Int → Sl} {s : Sto} (h : Fine D n V 0) (hok : StOk s n) (k : Int) (x : List UInt8) :
    ∃ D1 V1, mendX s k x D = ((if mendOk s k x then 0 else 1), D1) ∧ Fine D1 n V1 0 := by
  unfold mendX
  by_cases hm : mendOk s k x
  · rw [if_pos hm, if_pos hm]
    obtain ⟨hk, -, hl⟩ := hm
    have hb := hok.base
    have hft := hok.fit
    have hle := hok.len
    have har := hok.area
    have hri := hok.has (by omega)
    have hidx : 1 ≤ s.list.idx ∧ s.list.idx ≤ 1099511627776 := ⟨hri.1, hri.2.1⟩
    have e : mendW s k x = (s.b s.area (2 + k), chunkRec s.list.idx k.toNat x) := by
      unfold mendW chunkRec
      rw [Int.toNat_of_nonneg (by omega)]
    rw [e]
    have hr := h.runs [[(s.b s.area (2 + k), chunkRec s.list.idx k.toNat x)]] (by
      intro l hl2 c hc
      simp only [List.mem_cons, List.not_mem_nil, or_false] at hl2
      subst hl2
      simp only [List.mem_cons, List.not_mem_nil, or_false] at hc
      subst hc
      refine ⟨by simp only [Sto.b]; omega, by simp only [Sto.b]; omega, chunk_put hidx (by omega) (by omega)⟩)
    rw [runs_one] at hr
    obtain ⟨hr1, hr2⟩ := hr
    generalize hP : wrf [(s.b s.area (2 + k), chunkRec s.list.idx k.toNat x)] D = P at hr1 hr2 ⊢
    obtain ⟨E, D1⟩ := P
    simp only at hr1 hr2
    subst hr1
    exact ⟨D1, _, rfl, hr2⟩
  · rw [if_neg hm, if_neg hm]
    exact ⟨D, V, rfl, h⟩
/-- The values of the marked operations are known ahead. -/
def Sv (S : List (Nat × Value)) (f : Nat → Bool) (v : Nat → Value) : Prop := ∀ p ∈ S, f p.1 = true → v p.1 = p.2
theorem Sv.set {S : List (Nat × Value)} {f : Nat → Bool} {v : Nat → Value} {i : Nat} {u : Value} (h : Sv S f v) (hu : ∀ p ∈ S, p.1 = i → p.2 = u) : Sv S (setU f i true) (setU v i u) := by
  intro p hp hf
  by_cases hi : p.1 = i
  · rw [hu p hp hi, hi, setU_same]
  · rw [setU_other _ _ _ _ hi] at hf ⊢
    exact h p hp hf
theorem Sv.none (S : List (Nat × Value)) (v : Nat → Value) : Sv S (fun _ => false) v := fun p hp h => by cases h
/-- What stands while pieces are tried. -/
structure OthW (w0 : World) (q b : Nat) (sv : Value) (s : Sto) (P1 P2 zg zo zc nk k : Nat) (ps : List (List UInt8)) (wx : World) : Prop where
  dev : ∃ D V, StM w0 wx q b sv D s 140 [P2, P1, zg] ∧ Fine D 140 V 0
  c1 : Blk wx P1 31 [.slice (some ⟨zg, zo, none⟩) nk zc]
  c2 : Blk wx P2 3 [.int .i64 (k : Int)]
  rd : Rd wx 1 (.slice (some ⟨zg, zo, none⟩) nk zc) nk (ps.map str)
section
variable {w0 : World} {q b : Nat} {sv : Value} {s : Sto} {P1 P2 zg zo zc nk k : Nat} {ps : List (List UInt8)} {w : World}
theorem OthW.keep {w' : World} (h : OthW w0 q b sv s P1 P2 zg zo zc nk k ps w) (hx : Ext [] w w') : OthW w0 q b sv s P1 P2 zg zo zc nk k ps w' := by
  obtain ⟨⟨D, V, h1, h2⟩, h3, h4, h5⟩ := h
  exact ⟨⟨D, V, h1.keep hx, h2⟩, Blk.keep h3 hx (by simp), Blk.keep h4 hx (by simp), h5.keep hx (by simp)⟩
theorem OthW.mend (h : OthW w0 q b sv s P1 P2 zg zo zc nk k ps w) (j : Int) (x : List UInt8) (hx : x.length ≤ 1000000) {E : Int} (hE : (if mendOk s j x then 0 else 1) = E) :
    Calls Try.prog 19 #[.pointer (some ⟨q, 0, none⟩), .int .i64 j, str x] w fun e w' => e = .returned (.int .i64 E) ∧ OthW w0 q b sv s P1 P2 zg zo zc nk k ps w' := by
  obtain ⟨⟨D, V, h1, h2⟩, h3, h4, h5⟩ := h
  obtain ⟨D1, V1, e, hf⟩ := mend_fine h2 h1.ok j x
  have hc := h1.mend7 j x hx (by have := h2.since; omega)
  rw [e, hE] at hc
  refine hc.mono ?_
  rintro e w' ⟨rfl, hs, hk⟩
  exact ⟨rfl, ⟨D1, V1, hs, hf⟩, hk.blk h3 (by simp), hk.blk h4 (by simp), hk.rd h5 (by simp [vblocks])⟩
theorem OthW.like (h : OthW w0 q b sv s P1 P2 zg zo zc nk k ps w) (x p : List UInt8) (hp : ps[k]? = some p) (hnk : nk ≤ 1000000) (hxl : x.length ≤ 1000000) (hpl : p.length ≤ 1000000) {l : Bool} (hl : likeB x p = l) :
    Calls Try.prog 17 #[str x, .pointer (some ⟨P1, 0, none⟩), .pointer (some ⟨P2, 0, none⟩)] w fun e w' => e = .returned (.bool l) ∧ Ext [] w w' := by
  subst hl
  exact like_any x p P1 P2 zg zo nk zc k ps w h.c1 h.c2 h.rd hp hnk hxl hpl
theorem OthW.cell1 (h : OthW w0 q b sv s P1 P2 zg zo zc nk k ps w) : w.cell? ⟨P1, 0, none⟩ = some (.slice (some ⟨zg, zo, none⟩) nk zc) := Blk.c h.c1 0
theorem OthW.cell2 (h : OthW w0 q b sv s P1 P2 zg zo zc nk k ps w) : w.cell? ⟨P2, 0, none⟩ = some (.int .i64 (k : Int)) := Blk.c h.c2 0
theorem OthW.cellz (h : OthW w0 q b sv s P1 P2 zg zo zc nk k ps w) (j : Nat) (p : List UInt8) (hp : ps[j]? = some p) : w.cell? ⟨zg, zo + j, none⟩ = some (str p) := by
  have hlen := h.rd.len.2.2.2
  rw [List.length_map] at hlen
  have hj : j < ps.length := (List.getElem?_eq_some_iff.1 hp).1
  obtain ⟨g9, o9, e9, -, hc9⟩ := h.rd.view (by omega)
  cases e9
  exact hc9 j _ (by rw [List.getElem?_map, hp]; rfl)
end
/-- When a piece mends. -/
theorem mend_like {s : Sto} {i t : Int} {d : List UInt8} (ha : s.area = 0 ∨ s.area = 1) (hl : s.list = ofL i t d) (k : Nat) (hk : k < (cutL d).length) (x : List UInt8) : mendOk s k x ↔ likeB x (cutL d)[k] = true := by
  unfold mendOk likeB
  rw [decide_eq_true_iff]
  have hp := (cutL_piece d k hk).1
  have e1 : s.list.sums.getD (k : Int).toNat 0 = sumOf (cutL d)[k] := by
    rw [hl]
    simp [ofL, List.getD, hk]
  have e2 : s.list.bytes = d.length := by rw [hl]; rfl
  have e3 : s.list.sums.length = (cutL d).length := by rw [hl, ofL_sums_len]
  rw [e1, e2, e3]
  constructor
  · rintro ⟨-, h1, h2⟩
    exact ⟨by omega, h1⟩
  · rintro ⟨h1, h2⟩
    exact ⟨by omega, h2, by omega⟩
/-- A piece of a text, cut. -/
theorem cut_piece (d : List UInt8) (w : World) (nk k : Nat) (hd : d.length ≤ 1000000000) (hn : (cutL d).length = nk) (hk : k < nk) :
    Calls Try.prog 15 #[str d] w fun e w' => ∃ zg zo zc y, e = .returned (.slice (some ⟨zg, zo, none⟩) nk zc) ∧ w'.cell? ⟨zg, zo + k, none⟩ = some (str y) ∧ y.length ≤ 400 ∧ Ext [] w w' := by
  refine (cut_any d w hd).mono ?_
  rintro e w' ⟨sx, rfl, ho, hx, hv⟩
  obtain ⟨a, cap, rfl⟩ := Rd.isSlice ho.rd
  rw [hn] at ho ⊢
  obtain ⟨zg, zo, rfl, -, hc⟩ := ho.rd.view (by omega)
  have hkc : k < (cutL d).length := by omega
  exact ⟨zg, zo, cap, (cutL d)[k], rfl, hc k _ (by rw [List.getElem?_map, List.getElem?_eq_getElem hkc]; rfl), (cutL_piece d k hkc).2.2.1, hx⟩
set_option maxRecDepth 100000 in
set_option maxHeartbeats 25600000 in
theorem others7_any (nn : Int) (hn : -9223372036854775808 ≤ nn ∧ nn ≤ 9223372036854775807) (wh : Int) (hwh : -9223372036854775808 ≤ wh ∧ wh ≤ 9223372036854775807) (ot : Int) (hot : -9223372036854775808 ≤ ot ∧ ot ≤ 9223372036854775807) (w0 : World) :
    Calls Try.prog 3 #[.int .i64 nn, .int .i64 wh, .int .i64 ot] w0 fun e w' => e = .returned (.bool true) ∧ Ext [] w0 w' := by
  go_enter Try.func3, Try.ntmps3
  go_wp2_with fail
  refine (head7_any w0).mono ?_
  rintro e w1 ⟨rfl, hx1⟩
  go_wp2_with fail
  refine (text7_any (401 + nn % 2048) 1 w1 (by omega)).mono ?_
  rintro e w2 ⟨tx, rfl, htl, hx2⟩
  have htl2 : (tx.length : Int) = 401 + nn % 2048 := by omega
  obtain ⟨N, hN⟩ : ∃ N, N = 401 + nn % 2048 := ⟨_, rfl⟩
  rw [← hN] at htl2 ⊢
  have hNb : 401 ≤ N ∧ N ≤ 2448 := by omega
  have HX2 := Hid.of (hx1.then0 hx2)
  have HTL := Hid.of htl2
  have htl3 : 401 ≤ tx.length ∧ tx.length ≤ 2448 := by omega
  clear hx1 hx2 htl htl2 hN
  go_wp2_with fail
  refine (new_n 140 w0 w2 HX2.out).mono ?_
  rintro e w3 ⟨b, rfl, hd, hx3⟩
  have hf := Fine0.new 140 (by omega) (by omega)
  have HF := Hid.of hf
  have HD := Hid.of hd.o
  clear hd hf hx3 HX2
  go_wp2_with fail
  refine (open7_o HD.out HF.out.fine 0 (by omega) (by omega)).mono ?_
  rintro e w4 ⟨q, sv, rfl, hs, hx4, hq⟩
  have hg := Good.new 0
  rw [hg.open] at hs
  have HS4 := Hid.of hs
  obtain ⟨D', V', hX, hf', hg'⟩ := hg.putF HF.out (by omega) (by omega) (show (0 : Int) < 3 by omega) (text_right (i := 3) (t := 3) (d := tx) (by omega) (by omega) (by omega))
  have cp := hs.put7 3 3 tx (by omega) (by simp [newD])
  rw [hX] at cp
  unfold PutTo at cp
  simp only at cp
  have hhas := (hg'.som (show (3 : Int) ≠ 0 by decide)).1
  have hbs := hg'.bas
  have har : (putS ⟨0, -1, Ls.zero⟩ (ofL 3 3 tx)).area = 0 := rfl
  generalize putS ⟨0, -1, Ls.zero⟩ (ofL 3 3 tx) = s at cp hhas hbs har
  have HHas := Hid.of hhas
  have HF' := Hid.of hf'
  have HG' : Hid (s.base = 0 ∧ s.area = 0 ∧ s.list = ofL 3 3 tx) := Hid.of ⟨hbs, har, hhas.list⟩
  clear hs hx4 hq HD hg hX hf' hg' hhas hbs har HS4 HF
  go_wp2_with fail
  refine cp.mono ?_
  rintro e w5 ⟨sv', rfl, hs5, hk5⟩
  have HS5 := Hid.of hs5
  clear cp hs5 hk5
  go_wp2_with fail
  refine (cut_any tx w5 (by omega)).mono ?_
  rintro e w6 ⟨ss, rfl, ho6, hx6, hv6⟩
  obtain ⟨ps, hps⟩ : ∃ ps, ps = cutL tx := ⟨_, rfl⟩
  rw [← hps] at ho6
  obtain ⟨nk, hnk⟩ : ∃ m, m = ps.length := ⟨_, rfl⟩
  rw [← hnk] at ho6
  obtain ⟨za, zc, rfl⟩ := Rd.isSlice ho6.rd
  have hnk1 : 2 ≤ nk ∧ nk ≤ 7 := by rw [hnk, hps, cutL_length]; omega
  obtain ⟨zg, zo, rfl, hgw, -⟩ := ho6.rd.view (by omega)
  have HZ6 : Hid (Rd w6 1 (.slice (some ⟨zg, zo, none⟩) nk zc) nk (ps.map str)) := Hid.of ho6.rd
  have HS6 := Hid.of (HS5.out.add hx6 zg (hv6 zg (by simp [vblocks])) hgw)
  have HPs := Hid.of hps
  have HNk := Hid.of hnk
  clear ho6 hx6 hv6 hps hnk HS5
  obtain ⟨k, hkk⟩ : ∃ k : Nat, wh % 256 % (nk : Int) = (k : Int) := ⟨(wh % 256 % (nk : Int)).toNat, by rw [Int.toNat_of_nonneg (Int.emod_nonneg _ (by omega))]⟩
  have hk2 : k < nk := by have := Int.emod_lt_of_pos (wh % 256) (show (0 : Int) < nk by omega); omega
  have hkc : k < (cutL tx).length := by have := HNk.out; have h2 := HPs.out; subst h2; omega
  obtain ⟨p, hp⟩ : ∃ p, ps[k]? = some p := ⟨_, List.getElem?_eq_getElem (by have := HNk.out; omega)⟩
  have hpc : (cutL tx)[k] = p := by have h2 := HPs.out; subst h2; exact (List.getElem?_eq_some_iff.1 hp).2
  have hpl : 0 < p.length ∧ p.length ≤ 400 := by rw [← hpc]; exact ⟨(cutL_piece tx k hkc).2.1, (cutL_piece tx k hkc).2.2.1⟩
  have HLike : Hid (∀ x, mendOk s k x ↔ likeB x p = true) := Hid.of (fun x => by rw [← hpc]; exact mend_like HHas.out.area HG'.out.2.2 k hkc x)
  have HOut : Hid (∀ (j : Int) (x : List UInt8), j < 0 ∨ (nk : Int) ≤ j → ¬ mendOk s j x) := Hid.of (fun j x hj h => by
    have h1 := h.1
    rw [HG'.out.2.2, ofL_sums_len, ← HPs.out, ← HNk.out] at h1
    omega)
  have HP := Hid.of hp
  clear hp hpc hkc
  go_upto_region 11 with fail
  obtain ⟨w7, hw7⟩ : ∃ w, w = w6.alloc (.cells #[.slice (some ⟨zg, zo, none⟩) nk zc] 31) := ⟨_, rfl⟩
  obtain ⟨w8, hw8⟩ : ∃ w, w = w7.alloc (.cells #[.int .i64 (k : Int)] 3) := ⟨_, rfl⟩
  rw [← hw7, ← hw8]
  obtain ⟨P1, hP1⟩ : ∃ P, P = w6.heap.size := ⟨_, rfl⟩
  obtain ⟨P2, hP2⟩ : ∃ P, P = P1 + 1 := ⟨_, rfl⟩
  have hb7 : Blk w7 P1 31 [.slice (some ⟨zg, zo, none⟩) nk zc] := by rw [hw7]; exact Blk.newg hP1.symm
  have hx7 : Ext [] w6 w7 := by rw [hw7]; exact (Ext.refl _ _).alloc _
  have hz7 : w7.heap.size = P2 := by rw [hw7, hP2, hP1]; simp
  have hb8 : Blk w8 P2 3 [.int .i64 (k : Int)] := by rw [hw8]; exact Blk.newg hz7
  have hx8 : Ext [] w7 w8 := by rw [hw8]; exact (Ext.refl _ _).alloc _
  have HS8 := Hid.of ((HS6.out.add hx7 P1 (by omega) (Blk.lt hb7)).add hx8 P2 (by omega) (Blk.lt hb8))
  have HW8 : Hid (Blk w8 P1 31 [.slice (some ⟨zg, zo, none⟩) nk zc] ∧ Blk w8 P2 3 [.int .i64 (k : Int)] ∧ Rd w8 1 (.slice (some ⟨zg, zo, none⟩) nk zc) nk (ps.map str)) := Hid.of ⟨Blk.keep hb7 hx8 (by simp), hb8, HZ6.out.keep (hx7.then0 hx8) (by simp)⟩
  rw [← hP1, ← hP2]
  clear hw7 hw8 hP1 hP2 hb7 hx7 hz7 hx8 HS6 HZ6
  have c2 : w8.cell? ⟨P2, 0, none⟩ = some (.int .i64 (k : Int)) := Blk.c hb8 0
  have c1 := lose_o b D' (2 + (k : Int)) w0 w8 _ HS8.out.dev
  clear hb8
  go_wp2_with fail
  refine c1.mono ?_
  rintro e w9 ⟨rfl, hd9, hk9⟩
  have h9 := HS8.out.devt hd9 hk9
  have HO : Hid (OthW w0 q b sv' s P1 P2 zg zo zc nk k ps w9) := Hid.of ⟨⟨_, _, h9.1, HF'.out.fine.lose (by omega) (by omega)⟩, h9.2.blk HW8.out.1 (by simp), h9.2.blk HW8.out.2.1 (by simp), h9.2.rd HW8.out.2.2 (by simp [vblocks])⟩
  clear c1 c2 hd9 hk9 h9 HS8 HW8 HF' HG' HHas
  go_upto_region 12 with fail
  go_cut [13] (fun u wx => ∃ x : List UInt8, u = str x ∧ x.length ≤ 400 ∧ Hid (OthW w0 q b sv' s P1 P2 zg zo zc nk k ps wx))
  case first =>
    have c2 : ∀ w', Ext [] w9 w' → w'.cell? ⟨P2, 0, none⟩ = some (.int .i64 (k : Int)) := fun w' hx => (HO.out.keep hx).cell2
    have c20 : (w9.drew).cell? ⟨P2, 0, none⟩ = some (.int .i64 (k : Int)) := c2 _ (Ext.refl _ _).drew
    have hct : ∀ t2 : List UInt8, (t2.length : Int) = max N 0 → (cutL t2).length = nk := fun t2 h2 => by
      have h3 := HNk.out
      rw [HPs.out] at h3
      have h4 := HTL.out
      rw [h3, cutL_length, cutL_length]
      omega
    have cc := fun t2 wa (h2 : (t2.length : Int) = max N 0) => cut_piece t2 wa nk k (by omega) (hct t2 h2) hk2
    clear hct
    go_region_with (first
      | ((try go_at_call 11); (with_reducible refine (text7_any N 2 _ ?hn2).mono ?_); (case hn2 => omega); rintro e wa ⟨t2, rfl, hl2, hxa⟩; have c2a := c2 wa ((Ext.refl _ _).drew.then0 hxa))
      | ((try go_at_call 15); (with_reducible refine (cc _ _ ?hc2).mono ?_); (case hc2 => assumption); rintro e wb ⟨zg2, zo2, zc2, y, rfl, cy, hyl, hxb⟩; have HXB := Hid.of (((Ext.refl [] w9).drew.then0 hxa).then0 hxb); have c2b := c2 wb HXB.out))
    all_goals go_wp2_with fail
    all_goals go_meet
    all_goals exact ⟨y, rfl, hyl, Hid.of (HO.out.keep HXB.out)⟩
  case rest =>
    obtain ⟨x, rfl, hxl, HO2⟩ := hcut
    clear HO
    obtain ⟨wm, hwm⟩ : ∃ w, w = wc := ⟨_, rfl⟩
    rw [← hwm] at HO2 ⊢
    clear hwm
    obtain ⟨k1, hk1⟩ : ∃ k1 : Nat, ((k : Int) + 1) % (nk : Int) = (k1 : Int) := ⟨(((k : Int) + 1) % (nk : Int)).toNat, by rw [Int.toNat_of_nonneg (Int.emod_nonneg _ (by omega))]⟩
    have hk1t : Int.tmod ((k : Int) + 1) (nk : Int) = (k1 : Int) := by rw [Int.tmod_eq_emod_of_nonneg (by omega)]; exact hk1
    have hk1l : k1 < nk := by have := Int.emod_lt_of_pos ((k : Int) + 1) (show (0 : Int) < nk by omega); omega
    obtain ⟨z, hz⟩ : ∃ z, ps[k1]? = some z := ⟨_, List.getElem?_eq_getElem (by have := HNk.out; omega)⟩
    have hzl : z.length ≤ 400 := by
      have h1 := List.mem_of_getElem? hz
      rw [HPs.out] at h1
      obtain ⟨j, hj, rfl⟩ := List.mem_iff_getElem.1 h1
      exact (cutL_piece tx j hj).2.2.1
    have HZ := Hid.of hz
    clear hz
    have hkl : (k : Int) < (nk : Int) := by omega
    have hk1l2 : (k1 : Int) < (nk : Int) := by omega
    have hnz : ¬ (nk : Int) = 0 := by omega
    have hnz2 : ¬ nk = 0 := by omega
    go_upto_region 13 with fail
    refine wp_region_u [54, 55, 56, 57, 58, 59, 60, 61, 14] [] (fun n => match n with | 0 => .slice (some ⟨zg, zo, none⟩) nk zc | 1 => .int .i64 (k : Int) | 2 => .int .i64 ((k : Int) + 1) | 3 => .slice (some ⟨zg, zo, none⟩) nk zc | 4 => .int .i64 (nk : Int) | 5 => .int .i64 (k1 : Int) | 6 => .pointer (some ⟨zg, zo + k1, none⟩) | 7 => .string ⟨z.toArray⟩ | 8 => .string ⟨z.toArray⟩ | _ => undef) (fun f v wx => OthW w0 q b sv' s P1 P2 zg zo zc nk k ps wx) (by kernel_rfl) (by kernel_rfl) ?hst0_13 ?h00_13 ?hst_13 ?hend_13
    case hst0_13 =>
      exact fun f v w w' h hx => h.keep hx
    case h00_13 =>
      exact HO2.out
    case hst_13 =>
      refine ⟨?f0_13, ?f1_13, ?f2_13, ?f3_13, ?f4_13, ?f5_13, ?f6_13, ?f7_13, ?f8_13, trivial⟩
      case f0_13 =>
        intro f v g w' hJ hfi hb hd
        refine arm_u rfl ?_
        refine op_run rfl ?_
        generalize hA : mkAct _ _ g = A
        have h11 : A.tmps[11]?.getD undef = .pointer (some ⟨P1, 0, none⟩) := by rw [← hA]; exact mkAct_out2 _ _ _ _ _ rfl rfl
        have c := hJ.cell1
        refine step_val (v := .slice (some ⟨zg, zo, none⟩) nk zc) (w' := w') ?_ ⟨rfl, Ext.refl _ _⟩
        simp [execOp, h11, c, Result.andThen, go_sem]
      case f1_13 =>
        intro f v g w' hJ hfi hb hd
        refine arm_u rfl ?_
        refine op_run rfl ?_
        generalize hA : mkAct _ _ g = A
        have h12 : A.tmps[12]?.getD undef = .pointer (some ⟨P2, 0, none⟩) := by rw [← hA]; exact mkAct_out2 _ _ _ _ _ rfl rfl
        have c := hJ.cell2
        refine step_val (v := .int .i64 (k : Int)) (w' := w') ?_ ⟨rfl, Ext.refl _ _⟩
        simp [execOp, h12, c, Result.andThen, go_sem]
      case f2_13 =>
        intro f v g w' hJ hfi hb hd
        refine arm_u rfl ?_
        refine op_run rfl ?_
        have e55 : g 55 = .int .i64 (k : Int) := value_u (hd ⟨1, .data⟩ (by simp) rfl) rfl rfl
        generalize hA : mkAct _ _ g = A
        have h55 : A.tmps[55]?.getD undef = .int .i64 (k : Int) := by rw [← hA, mkAct_in2 _ _ _ _ rfl rfl]; exact e55
        refine step_val (v := .int .i64 ((k : Int) + 1)) (w' := w') ?_ ⟨rfl, Ext.refl _ _⟩
        simp [execOp, h55, Result.andThen, go_sem]
        exact IntWalk.i64_in _ ⟨by omega, by omega⟩
      case f3_13 =>
        intro f v g w' hJ hfi hb hd
        refine arm_u rfl ?_
        refine op_run rfl ?_
        generalize hA : mkAct _ _ g = A
        have h11 : A.tmps[11]?.getD undef = .pointer (some ⟨P1, 0, none⟩) := by rw [← hA]; exact mkAct_out2 _ _ _ _ _ rfl rfl
        have c := hJ.cell1
        refine step_val (v := .slice (some ⟨zg, zo, none⟩) nk zc) (w' := w') ?_ ⟨rfl, Ext.refl _ _⟩
        simp [execOp, h11, c, Result.andThen, go_sem]
      case f4_13 =>
        intro f v g w' hJ hfi hb hd
        refine arm_u rfl ?_
        refine op_run rfl ?_
        have e57 : g 57 = .slice (some ⟨zg, zo, none⟩) nk zc := value_u (hd ⟨3, .data⟩ (by simp) rfl) rfl rfl
        generalize hA : mkAct _ _ g = A
        have h57 : A.tmps[57]?.getD undef = .slice (some ⟨zg, zo, none⟩) nk zc := by rw [← hA, mkAct_in2 _ _ _ _ rfl rfl]; exact e57
        refine step_val (v := .int .i64 (nk : Int)) (w' := w') ?_ ⟨rfl, Ext.refl _ _⟩
        simp [execOp, h57, Result.andThen, go_sem]
      case f5_13 =>
        intro f v g w' hJ hfi hb hd
        refine arm_u rfl ?_
        refine op_run rfl ?_
        have e56 : g 56 = .int .i64 ((k : Int) + 1) := value_u (hd ⟨2, .data⟩ (by simp) rfl) rfl rfl
        have e58 : g 58 = .int .i64 (nk : Int) := value_u (hd ⟨4, .data⟩ (by simp) rfl) rfl rfl
        generalize hA : mkAct _ _ g = A
        have h56 : A.tmps[56]?.getD undef = .int .i64 ((k : Int) + 1) := by rw [← hA, mkAct_in2 _ _ _ _ rfl rfl]; exact e56
        have h58 : A.tmps[58]?.getD undef = .int .i64 (nk : Int) := by rw [← hA, mkAct_in2 _ _ _ _ rfl rfl]; exact e58
        refine step_val (v := .int .i64 (k1 : Int)) (w' := w') ?_ ⟨rfl, Ext.refl _ _⟩
        simp [execOp, hk1, hk1t, hnz, hnz2, h56, h58, Result.andThen, go_sem]
        all_goals (first | exact hkl | omega)
      case f6_13 =>
        intro f v g w' hJ hfi hb hd
        refine arm_u rfl ?_
        refine op_run rfl ?_
        have e54 : g 54 = .slice (some ⟨zg, zo, none⟩) nk zc := value_u (hd ⟨0, .data⟩ (by simp) rfl) rfl rfl
        have e59 : g 59 = .int .i64 (k1 : Int) := value_u (hd ⟨5, .data⟩ (by simp) rfl) rfl rfl
        generalize hA : mkAct _ _ g = A
        have h54 : A.tmps[54]?.getD undef = .slice (some ⟨zg, zo, none⟩) nk zc := by rw [← hA, mkAct_in2 _ _ _ _ rfl rfl]; exact e54
        have h59 : A.tmps[59]?.getD undef = .int .i64 (k1 : Int) := by rw [← hA, mkAct_in2 _ _ _ _ rfl rfl]; exact e59
        refine step_val (v := .pointer (some ⟨zg, zo + k1, none⟩)) (w' := w') ?_ ⟨rfl, Ext.refl _ _⟩
        simp [execOp, hk1l2, hk1l, h54, h59, Result.andThen, go_sem]
        all_goals (first | exact hkl | omega)
      case f7_13 =>
        intro f v g w' hJ hfi hb hd
        refine arm_u rfl ?_
        refine op_run rfl ?_
        have e60 : g 60 = .pointer (some ⟨zg, zo + k1, none⟩) := value_u (hd ⟨6, .data⟩ (by simp) rfl) rfl rfl
        generalize hA : mkAct _ _ g = A
        have h60 : A.tmps[60]?.getD undef = .pointer (some ⟨zg, zo + k1, none⟩) := by rw [← hA, mkAct_in2 _ _ _ _ rfl rfl]; exact e60
        have c := hJ.cellz k1 z HZ.out
        refine step_val (v := .string ⟨z.toArray⟩) (w' := w') ?_ ⟨rfl, Ext.refl _ _⟩
        simp [execOp, h60, c, Result.andThen, go_sem]
      case f8_13 =>
        intro f v g w' hJ hfi hb hd
        refine arm_u rfl ?_
        refine op_run rfl ?_
        have e61 : g 61 = .string ⟨z.toArray⟩ := value_u (hd ⟨7, .data⟩ (by simp) rfl) rfl rfl
        generalize hA : mkAct _ _ g = A
        have h61 : A.tmps[61]?.getD undef = .string ⟨z.toArray⟩ := by rw [← hA, mkAct_in2 _ _ _ _ rfl rfl]; exact e61
        refine step_val (v := .string ⟨z.toArray⟩) (w' := w') ?_ ⟨rfl, Ext.refl _ _⟩
        simp [execOp, h61, Result.andThen, go_sem]
    intro f v g wn hJ hk
    have e14 : g 14 = .string ⟨z.toArray⟩ := value_u (hk 8 (by decide)) rfl rfl
    have HO3 := Hid.of hJ
    clear hk hJ HO2 hk1 hk1t
    unfold mkAct; simp only [List.zipIdx_cons, List.zipIdx_nil, List.map_cons, List.map_nil, Nat.zero_add, Nat.reduceAdd, List.contains_cons, List.contains_nil, Nat.reduceBEq, Bool.or_false, Bool.or_true, ↓reduceIte, Bool.false_eq_true]
    rw [e14]
    go_upto_region 15 with fail
    obtain ⟨l1, hl1⟩ : ∃ l, likeB x p = l := ⟨_, rfl⟩
    obtain ⟨l2, hl2⟩ : ∃ l, likeB z p = l := ⟨_, rfl⟩
    obtain ⟨E1, hE1⟩ : ∃ E : Int, (if mendOk s k x then 0 else 1) = E := ⟨_, rfl⟩
    obtain ⟨E2, hE2⟩ : ∃ E : Int, (if mendOk s k z then 0 else 1) = E := ⟨_, rfl⟩
    have eE1 : (E1 == 1) = !l1 := by
      rw [← hE1, ← hl1]
      by_cases h : mendOk s k x
      · rw [if_pos h, (HLike.out x).1 h]; rfl
      · rw [if_neg h]
        cases h2 : likeB x p with
        | true => exact absurd ((HLike.out x).2 h2) h
        | false => rfl
    have eE2 : (E2 == 1) = !l2 := by
      rw [← hE2, ← hl2]
      by_cases h : mendOk s k z
      · rw [if_pos h, (HLike.out z).1 h]; rfl
      · rw [if_neg h]
        cases h2 : likeB z p with
        | true => exact absurd ((HLike.out z).2 h2) h
        | false => rfl
    obtain ⟨p1, hp1⟩ : ∃ l, l = p.drop 1 := ⟨_, rfl⟩
    have hp1l : p1.length = p.length - 1 := by rw [hp1, List.length_drop]
    have hE3 : (if mendOk s k p1 then 0 else 1) = (1 : Int) := if_neg (fun h => by
      have h2 := (HLike.out _).1 h
      unfold likeB at h2
      have h3 := (of_decide_eq_true h2).1
      omega)
    have hE4 : (if mendOk s (nk : Int) p then 0 else 1) = (1 : Int) := if_neg (HOut.out _ _ (.inr (Int.le_refl _)))
    have hE5 : (if mendOk s (-1 - ot % 8) p then 0 else 1) = (1 : Int) := if_neg (HOut.out _ _ (.inl (by omega)))
    have hdr : ByteArray.extract ⟨p.toArray⟩ 1 p.length = ⟨p1.toArray⟩ := by rw [hp1]; exact drop_extract p 1 (by omega)
    have hp1n : ¬ (p.length : Int) < 1 := by omega
    have hp1m : (1 : Int) ≤ (p.length : Int) := by omega
    clear hp1
    obtain ⟨SV, hSV⟩ : ∃ S : List (Nat × Value), S = [(3, .int .i64 E1), (14, .int .i64 E2), (30, .int .i64 1), (41, .int .i64 1), (53, .int .i64 1)] := ⟨_, rfl⟩
    refine wp_region_u [63, 64, 65, 66, 67, 68, 69, 70, 71, 72, 73, 74, 75, 76, 77, 78, 79, 80, 81, 82, 83, 84, 85, 86, 87, 88, 89, 90, 91, 92, 93, 94, 95, 96, 97, 98, 99, 100, 101, 102, 103, 104, 105, 106, 107, 108, 109, 110, 111, 112, 113, 114, 115, 116, 117, 118, 6] [3, 14, 30, 41, 53] (fun n => match n with | 0 => .pointer (some ⟨q, 0, none⟩) | 1 => .int .i64 (k : Int) | 2 => .string ⟨x.toArray⟩ | 4 => .bool (!l1) | 5 => .func (.func 17) #[] #[.pointer (some ⟨P1, 0, none⟩), .pointer (some ⟨P2, 0, none⟩)] | 6 => .string ⟨x.toArray⟩ | 7 => .bool l1 | 8 => .bool (!l1) | 9 => .bool true | 10 => .bool true | 11 => .pointer (some ⟨q, 0, none⟩) | 12 => .int .i64 (k : Int) | 13 => .string ⟨z.toArray⟩ | 15 => .bool (!l2) | 16 => .func (.func 17) #[] #[.pointer (some ⟨P1, 0, none⟩), .pointer (some ⟨P2, 0, none⟩)] | 17 => .string ⟨z.toArray⟩ | 18 => .bool l2 | 19 => .bool (!l2) | 20 => .bool true | 21 => .bool true | 22 => .bool true | 23 => .pointer (some ⟨q, 0, none⟩) | 24 => .int .i64 (k : Int) | 25 => .slice (some ⟨zg, zo, none⟩) nk zc | 26 => .int .i64 (k : Int) | 27 => .pointer (some ⟨zg, zo + k, none⟩) | 28 => .string ⟨p.toArray⟩ | 29 => .string ⟨p1.toArray⟩ | 31 => .bool true | 32 => .bool true | 33 => .bool true | 34 => .pointer (some ⟨q, 0, none⟩) | 35 => .slice (some ⟨zg, zo, none⟩) nk zc | 36 => .int .i64 (nk : Int) | 37 => .slice (some ⟨zg, zo, none⟩) nk zc | 38 => .int .i64 (k : Int) | 39 => .pointer (some ⟨zg, zo + k, none⟩) | 40 => .string ⟨p.toArray⟩ | 42 => .bool true | 43 => .bool true | 44 => .bool true | 45 => .pointer (some ⟨q, 0, none⟩) | 46 => .int .i64 ot | 47 => .int .i64 (ot % 8) | 48 => .int .i64 (-1 - ot % 8) | 49 => .slice (some ⟨zg, zo, none⟩) nk zc | 50 => .int .i64 (k : Int) | 51 => .pointer (some ⟨zg, zo + k, none⟩) | 52 => .string ⟨p.toArray⟩ | 54 => .bool true | 55 => .bool true | 56 => .bool true | _ => undef) (fun f v wx => OthW w0 q b sv' s P1 P2 zg zo zc nk k ps wx ∧ Sv SV f v) (by kernel_rfl) (by kernel_rfl) ?hst0_15 ?h00_15 ?hst_15 ?hend_15
    case hst0_15 =>
      rintro f v w w' ⟨h1, h2⟩ hx
      exact ⟨h1.keep hx, h2⟩
    case h00_15 =>
      exact ⟨HO3.out, Sv.none _ _⟩
    case hst_15 =>
      refine ⟨?f0_15, ?f1_15, ?f2_15, ?f3_15, ?f4_15, ?f5_15, ?f6_15, ?f7_15, ?f8_15, ?f9_15, ?f10_15, ?f11_15, ?f12_15, ?f13_15, ?f14_15, ?f15_15, ?f16_15, ?f17_15, ?f18_15, ?f19_15, ?f20_15, ?f21_15, ?f22_15, ?f23_15, ?f24_15, ?f25_15, ?f26_15, ?f27_15, ?f28_15, ?f29_15, ?f30_15, ?f31_15, ?f32_15, ?f33_15, ?f34_15, ?f35_15, ?f36_15, ?f37_15, ?f38_15, ?f39_15, ?f40_15, ?f41_15, ?f42_15, ?f43_15, ?f44_15, ?f45_15, ?f46_15, ?f47_15, ?f48_15, ?f49_15, ?f50_15, ?f51_15, ?f52_15, ?f53_15, ?f54_15, ?f55_15, ?f56_15, trivial⟩
      case f0_15 =>
        intro f v g w' hJ hfi hb hd
        refine arm_u rfl ?_
        refine op_run rfl ?_
        generalize hA : mkAct _ _ g = A
        have h9 : A.tmps[9]?.getD undef = .pointer (some ⟨q, 0, none⟩) := by rw [← hA]; exact mkAct_out2 _ _ _ _ _ rfl rfl
        refine step_val (v := .pointer (some ⟨q, 0, none⟩)) (w' := w') ?_ ⟨rfl, Ext.refl _ _⟩
        simp [execOp, h9, Result.andThen, go_sem]
      case f1_15 =>
        intro f v g w' hJ hfi hb hd
        refine arm_u rfl ?_
        refine op_run rfl ?_
        generalize hA : mkAct _ _ g = A
        have h12 : A.tmps[12]?.getD undef = .pointer (some ⟨P2, 0, none⟩) := by rw [← hA]; exact mkAct_out2 _ _ _ _ _ rfl rfl
        have c := hJ.1.cell2
        refine step_val (v := .int .i64 (k : Int)) (w' := w') ?_ ⟨rfl, Ext.refl _ _⟩
        simp [execOp, h12, c, Result.andThen, go_sem]
      case f2_15 =>
        intro f v g w' hJ hfi hb hd
        refine arm_u rfl ?_
        refine op_run rfl ?_
        generalize hA : mkAct _ _ g = A
        have h13 : A.tmps[13]?.getD undef = .string ⟨x.toArray⟩ := by rw [← hA]; exact mkAct_out2 _ _ _ _ _ rfl rfl
        refine step_val (v := .string ⟨x.toArray⟩) (w' := w') ?_ ⟨rfl, Ext.refl _ _⟩
        simp [execOp, h13, Result.andThen, go_sem]
      case f3_15 =>
        intro f v g w' hJ hfi hb hd
        refine arms_u rfl ?_
        refine op_run rfl ?_
        have e63 : g 63 = .pointer (some ⟨q, 0, none⟩) := value_u (hd ⟨0, .data⟩ (by simp) rfl) rfl rfl
        have e64 : g 64 = .int .i64 (k : Int) := value_u (hd ⟨1, .data⟩ (by simp) rfl) rfl rfl
        have e65 : g 65 = .string ⟨x.toArray⟩ := value_u (hd ⟨2, .data⟩ (by simp) rfl) rfl rfl
        generalize hA : mkAct _ _ g = A
        have h63 : A.tmps[63]?.getD undef = .pointer (some ⟨q, 0, none⟩) := by rw [← hA, mkAct_in2 _ _ _ _ rfl rfl]; exact e63
        have h64 : A.tmps[64]?.getD undef = .int .i64 (k : Int) := by rw [← hA, mkAct_in2 _ _ _ _ rfl rfl]; exact e64
        have h65 : A.tmps[65]?.getD undef = .string ⟨x.toArray⟩ := by rw [← hA, mkAct_in2 _ _ _ _ rfl rfl]; exact e65
        refine mid_u (fun K hK => ?_)
        go_simp
        refine (hJ.1.mend (k : Int) x (by omega) hE1).mono ?_
        rintro e w2 ⟨rfl, hw2⟩
        exact hK (.int .i64 E1) w2 ⟨hw2, hJ.2.set (by rw [hSV]; simp)⟩
      case f4_15 =>
        intro f v g w' hJ hfi hb hd
        refine arm_u rfl ?_
        refine op_run rfl ?_
        obtain ⟨hf66, e66⟩ := special_u (hd ⟨3, .data⟩ (by simp) rfl) rfl rfl
        replace e66 : g 66 = v 3 := e66
        have e66x : v 3 = .int .i64 E1 := hJ.2 (3, _) (by rw [hSV]; simp) hf66
        rw [e66x] at e66
        generalize hA : mkAct _ _ g = A
        have h66 : A.tmps[66]?.getD undef = .int .i64 E1 := by rw [← hA, mkAct_in2 _ _ _ _ rfl rfl]; exact e66
        refine step_val (v := .bool (!l1)) (w' := w') ?_ ⟨rfl, Ext.refl _ _⟩
        simp [execOp, eE1, h66, Result.andThen, go_sem]
      case f5_15 =>
        intro f v g w' hJ hfi hb hd
        refine arm_u rfl ?_
        refine op_run rfl ?_
        generalize hA : mkAct _ _ g = A
        have h15 : A.tmps[15]?.getD undef = .func (.func 17) #[] #[.pointer (some ⟨P1, 0, none⟩), .pointer (some ⟨P2, 0, none⟩)] := by rw [← hA]; exact mkAct_out2 _ _ _ _ _ rfl rfl
        refine step_val (v := .func (.func 17) #[] #[.pointer (some ⟨P1, 0, none⟩), .pointer (some ⟨P2, 0, none⟩)]) (w' := w') ?_ ⟨rfl, Ext.refl _ _⟩
        simp [execOp, h15, Result.andThen, go_sem]
      case f6_15 =>
        intro f v g w' hJ hfi hb hd
        refine arm_u rfl ?_
        refine op_run rfl ?_
        generalize hA : mkAct _ _ g = A
        have h13 : A.tmps[13]?.getD undef = .string ⟨x.toArray⟩ := by rw [← hA]; exact mkAct_out2 _ _ _ _ _ rfl rfl
        refine step_val (v := .string ⟨x.toArray⟩) (w' := w') ?_ ⟨rfl, Ext.refl _ _⟩
        simp [execOp, h13, Result.andThen, go_sem]
      case f7_15 =>
        intro f v g w' hJ hfi hb hd
        refine arm_u rfl ?_
        refine op_run rfl ?_
        have e68 : g 68 = .func (.func 17) #[] #[.pointer (some ⟨P1, 0, none⟩), .pointer (some ⟨P2, 0, none⟩)] := value_u (hd ⟨5, .data⟩ (by simp) rfl) rfl rfl
        have e69 : g 69 = .string ⟨x.toArray⟩ := value_u (hd ⟨6, .data⟩ (by simp) rfl) rfl rfl
        generalize hA : mkAct _ _ g = A
        have h68 : A.tmps[68]?.getD undef = .func (.func 17) #[] #[.pointer (some ⟨P1, 0, none⟩), .pointer (some ⟨P2, 0, none⟩)] := by rw [← hA, mkAct_in2 _ _ _ _ rfl rfl]; exact e68
        have h69 : A.tmps[69]?.getD undef = .string ⟨x.toArray⟩ := by rw [← hA, mkAct_in2 _ _ _ _ rfl rfl]; exact e69
        refine float_u (fun K hK => ?_)
        go_simp
        refine (hJ.1.like x p HP.out (by omega) (by omega) (by omega) hl1).mono ?_
        rintro e w2 ⟨rfl, hx2⟩
        exact hK w2 hx2
      case f8_15 =>
        intro f v g w' hJ hfi hb hd
        refine arm_u rfl ?_
        refine op_run rfl ?_
        have e70 : g 70 = .bool l1 := value_u (hd ⟨7, .data⟩ (by simp) rfl) rfl rfl
        generalize hA : mkAct _ _ g = A
        have h70 : A.tmps[70]?.getD undef = .bool l1 := by rw [← hA, mkAct_in2 _ _ _ _ rfl rfl]; exact e70
        refine step_val (v := .bool (!l1)) (w' := w') ?_ ⟨rfl, Ext.refl _ _⟩
        simp [execOp, h70, Result.andThen, go_sem]
      case f9_15 =>
        intro f v g w' hJ hfi hb hd
        refine arm_u rfl ?_
        refine op_run rfl ?_
        have e67 : g 67 = .bool (!l1) := value_u (hd ⟨4, .data⟩ (by simp) rfl) rfl rfl
        have e71 : g 71 = .bool (!l1) := value_u (hd ⟨8, .data⟩ (by simp) rfl) rfl rfl
        generalize hA : mkAct _ _ g = A
        have h67 : A.tmps[67]?.getD undef = .bool (!l1) := by rw [← hA, mkAct_in2 _ _ _ _ rfl rfl]; exact e67
        have h71 : A.tmps[71]?.getD undef = .bool (!l1) := by rw [← hA, mkAct_in2 _ _ _ _ rfl rfl]; exact e71
        refine step_val (v := .bool true) (w' := w') ?_ ⟨rfl, Ext.refl _ _⟩
        simp [execOp, h67, h71, Result.andThen, go_sem]
      case f10_15 =>
        intro f v g w' hJ hfi hb hd
        refine arm_u rfl ?_
        refine op_run rfl ?_
        have e72 : g 72 = .bool true := value_u (hd ⟨9, .data⟩ (by simp) rfl) rfl rfl
        generalize hA : mkAct _ _ g = A
        have h72 : A.tmps[72]?.getD undef = .bool true := by rw [← hA, mkAct_in2 _ _ _ _ rfl rfl]; exact e72
        refine step_val (v := .bool true) (w' := w') ?_ ⟨rfl, Ext.refl _ _⟩
        simp [execOp, h72, Result.andThen, go_sem]
      case f11_15 =>
        intro f v g w' hJ hfi hb hd
        refine arm_u rfl ?_
        have eg : g 73 = .bool true := value_u (hd ⟨10, .guard⟩ (by simp) rfl) rfl rfl
        refine op_yes rfl rfl rfl rfl eg ?_
        generalize hA : mkAct _ _ g = A
        have h9 : A.tmps[9]?.getD undef = .pointer (some ⟨q, 0, none⟩) := by rw [← hA]; exact mkAct_out2 _ _ _ _ _ rfl rfl
        refine step_val (v := .pointer (some ⟨q, 0, none⟩)) (w' := w') ?_ ⟨rfl, Ext.refl _ _⟩
        simp [execOp, h9, Result.andThen, go_sem]
      case f12_15 =>
        intro f v g w' hJ hfi hb hd
        refine arm_u rfl ?_
        have eg : g 73 = .bool true := value_u (hd ⟨10, .guard⟩ (by simp) rfl) rfl rfl
        refine op_yes rfl rfl rfl rfl eg ?_
        generalize hA : mkAct _ _ g = A
        have h12 : A.tmps[12]?.getD undef = .pointer (some ⟨P2, 0, none⟩) := by rw [← hA]; exact mkAct_out2 _ _ _ _ _ rfl rfl
        have c := hJ.1.cell2
        refine step_val (v := .int .i64 (k : Int)) (w' := w') ?_ ⟨rfl, Ext.refl _ _⟩
        simp [execOp, h12, c, Result.andThen, go_sem]
      case f13_15 =>
        intro f v g w' hJ hfi hb hd
        refine arm_u rfl ?_
        have eg : g 73 = .bool true := value_u (hd ⟨10, .guard⟩ (by simp) rfl) rfl rfl
        refine op_yes rfl rfl rfl rfl eg ?_
        generalize hA : mkAct _ _ g = A
        have h14 : A.tmps[14]?.getD undef = .string ⟨z.toArray⟩ := by rw [← hA]; exact mkAct_out2 _ _ _ _ _ rfl rfl
        refine step_val (v := .string ⟨z.toArray⟩) (w' := w') ?_ ⟨rfl, Ext.refl _ _⟩
        simp [execOp, h14, Result.andThen, go_sem]
      case f14_15 =>
        intro f v g w' hJ hfi hb hd
        refine arms_u rfl ?_
        have eg : g 73 = .bool true := value_u (hd ⟨10, .guard⟩ (by simp) rfl) rfl rfl
        refine op_yes rfl rfl rfl rfl eg ?_
        have e74 : g 74 = .pointer (some ⟨q, 0, none⟩) := value_u (hd ⟨11, .data⟩ (by simp) rfl) rfl rfl
        have e75 : g 75 = .int .i64 (k : Int) := value_u (hd ⟨12, .data⟩ (by simp) rfl) rfl rfl
        have e76 : g 76 = .string ⟨z.toArray⟩ := value_u (hd ⟨13, .data⟩ (by simp) rfl) rfl rfl
        generalize hA : mkAct _ _ g = A
        have h74 : A.tmps[74]?.getD undef = .pointer (some ⟨q, 0, none⟩) := by rw [← hA, mkAct_in2 _ _ _ _ rfl rfl]; exact e74
        have h75 : A.tmps[75]?.getD undef = .int .i64 (k : Int) := by rw [← hA, mkAct_in2 _ _ _ _ rfl rfl]; exact e75
        have h76 : A.tmps[76]?.getD undef = .string ⟨z.toArray⟩ := by rw [← hA, mkAct_in2 _ _ _ _ rfl rfl]; exact e76
        refine mid_u (fun K hK => ?_)
        go_simp
        refine (hJ.1.mend (k : Int) z (by omega) hE2).mono ?_
        rintro e w2 ⟨rfl, hw2⟩
        exact hK (.int .i64 E2) w2 ⟨hw2, hJ.2.set (by rw [hSV]; simp)⟩
      case f15_15 =>
        intro f v g w' hJ hfi hb hd
        refine arm_u rfl ?_
        have eg : g 73 = .bool true := value_u (hd ⟨10, .guard⟩ (by simp) rfl) rfl rfl
        refine op_yes rfl rfl rfl rfl eg ?_
        obtain ⟨hf77, e77⟩ := special_u (hd ⟨14, .data⟩ (by simp) rfl) rfl rfl
        replace e77 : g 77 = v 14 := e77
        have e77x : v 14 = .int .i64 E2 := hJ.2 (14, _) (by rw [hSV]; simp) hf77
        rw [e77x] at e77
        generalize hA : mkAct _ _ g = A
        have h77 : A.tmps[77]?.getD undef = .int .i64 E2 := by rw [← hA, mkAct_in2 _ _ _ _ rfl rfl]; exact e77
        refine step_val (v := .bool (!l2)) (w' := w') ?_ ⟨rfl, Ext.refl _ _⟩
        simp [execOp, eE2, h77, Result.andThen, go_sem]
      case f16_15 =>
        intro f v g w' hJ hfi hb hd
        refine arm_u rfl ?_
        have eg : g 73 = .bool true := value_u (hd ⟨10, .guard⟩ (by simp) rfl) rfl rfl
        refine op_yes rfl rfl rfl rfl eg ?_
        generalize hA : mkAct _ _ g = A
        have h15 : A.tmps[15]?.getD undef = .func (.func 17) #[] #[.pointer (some ⟨P1, 0, none⟩), .pointer (some ⟨P2, 0, none⟩)] := by rw [← hA]; exact mkAct_out2 _ _ _ _ _ rfl rfl
        refine step_val (v := .func (.func 17) #[] #[.pointer (some ⟨P1, 0, none⟩), .pointer (some ⟨P2, 0, none⟩)]) (w' := w') ?_ ⟨rfl, Ext.refl _ _⟩
        simp [execOp, h15, Result.andThen, go_sem]
      case f17_15 =>
        intro f v g w' hJ hfi hb hd
        refine arm_u rfl ?_
        have eg : g 73 = .bool true := value_u (hd ⟨10, .guard⟩ (by simp) rfl) rfl rfl
        refine op_yes rfl rfl rfl rfl eg ?_
        generalize hA : mkAct _ _ g = A
        have h14 : A.tmps[14]?.getD undef = .string ⟨z.toArray⟩ := by rw [← hA]; exact mkAct_out2 _ _ _ _ _ rfl rfl
        refine step_val (v := .string ⟨z.toArray⟩) (w' := w') ?_ ⟨rfl, Ext.refl _ _⟩
        simp [execOp, h14, Result.andThen, go_sem]
      case f18_15 =>
        intro f v g w' hJ hfi hb hd
        refine arm_u rfl ?_
        have eg : g 73 = .bool true := value_u (hd ⟨10, .guard⟩ (by simp) rfl) rfl rfl
        refine op_yes rfl rfl rfl rfl eg ?_
        have e79 : g 79 = .func (.func 17) #[] #[.pointer (some ⟨P1, 0, none⟩), .pointer (some ⟨P2, 0, none⟩)] := value_u (hd ⟨16, .data⟩ (by simp) rfl) rfl rfl
        have e80 : g 80 = .string ⟨z.toArray⟩ := value_u (hd ⟨17, .data⟩ (by simp) rfl) rfl rfl
        generalize hA : mkAct _ _ g = A
        have h79 : A.tmps[79]?.getD undef = .func (.func 17) #[] #[.pointer (some ⟨P1, 0, none⟩), .pointer (some ⟨P2, 0, none⟩)] := by rw [← hA, mkAct_in2 _ _ _ _ rfl rfl]; exact e79
        have h80 : A.tmps[80]?.getD undef = .string ⟨z.toArray⟩ := by rw [← hA, mkAct_in2 _ _ _ _ rfl rfl]; exact e80
        refine float_u (fun K hK => ?_)
        go_simp
        refine (hJ.1.like z p HP.out (by omega) (by omega) (by omega) hl2).mono ?_
        rintro e w2 ⟨rfl, hx2⟩
        exact hK w2 hx2
      case f19_15 =>
        intro f v g w' hJ hfi hb hd
        refine arm_u rfl ?_
        have eg : g 73 = .bool true := value_u (hd ⟨10, .guard⟩ (by simp) rfl) rfl rfl
        refine op_yes rfl rfl rfl rfl eg ?_
        have e81 : g 81 = .bool l2 := value_u (hd ⟨18, .data⟩ (by simp) rfl) rfl rfl
        generalize hA : mkAct _ _ g = A
        have h81 : A.tmps[81]?.getD undef = .bool l2 := by rw [← hA, mkAct_in2 _ _ _ _ rfl rfl]; exact e81
        refine step_val (v := .bool (!l2)) (w' := w') ?_ ⟨rfl, Ext.refl _ _⟩
        simp [execOp, h81, Result.andThen, go_sem]
      case f20_15 =>
        intro f v g w' hJ hfi hb hd
        refine arm_u rfl ?_
        have eg : g 73 = .bool true := value_u (hd ⟨10, .guard⟩ (by simp) rfl) rfl rfl
        refine op_yes rfl rfl rfl rfl eg ?_
        have e78 : g 78 = .bool (!l2) := value_u (hd ⟨15, .data⟩ (by simp) rfl) rfl rfl
        have e82 : g 82 = .bool (!l2) := value_u (hd ⟨19, .data⟩ (by simp) rfl) rfl rfl
        generalize hA : mkAct _ _ g = A
        have h78 : A.tmps[78]?.getD undef = .bool (!l2) := by rw [← hA, mkAct_in2 _ _ _ _ rfl rfl]; exact e78
        have h82 : A.tmps[82]?.getD undef = .bool (!l2) := by rw [← hA, mkAct_in2 _ _ _ _ rfl rfl]; exact e82
        refine step_val (v := .bool true) (w' := w') ?_ ⟨rfl, Ext.refl _ _⟩
        simp [execOp, h78, h82, Result.andThen, go_sem]
      case f21_15 =>
        intro f v g w' hJ hfi hb hd
        refine arm_u rfl ?_
        refine op_run rfl ?_
        have e73 : g 73 = .bool true := value_u (hd ⟨10, .data⟩ (by simp) rfl) rfl rfl
        have e83 : g 83 = .bool true := value_u (hd ⟨20, .data⟩ (by simp) rfl) rfl rfl
        generalize hA : mkAct _ _ g = A
        have h73 : A.tmps[73]?.getD undef = .bool true := by rw [← hA, mkAct_in2 _ _ _ _ rfl rfl]; exact e73
        have h83 : A.tmps[83]?.getD undef = .bool true := by rw [← hA, mkAct_in2 _ _ _ _ rfl rfl]; exact e83
        refine step_val (v := .bool true) (w' := w') ?_ ⟨rfl, Ext.refl _ _⟩
        simp [execOp, h73, h83, Result.andThen, go_sem]
      case f22_15 =>
        intro f v g w' hJ hfi hb hd
        refine arm_u rfl ?_
        refine op_run rfl ?_
        have e84 : g 84 = .bool true := value_u (hd ⟨21, .data⟩ (by simp) rfl) rfl rfl
        generalize hA : mkAct _ _ g = A
        have h84 : A.tmps[84]?.getD undef = .bool true := by rw [← hA, mkAct_in2 _ _ _ _ rfl rfl]; exact e84
        refine step_val (v := .bool true) (w' := w') ?_ ⟨rfl, Ext.refl _ _⟩
        simp [execOp, h84, Result.andThen, go_sem]
      case f23_15 =>
        intro f v g w' hJ hfi hb hd
        refine arm_u rfl ?_
        have eg : g 85 = .bool true := value_u (hd ⟨22, .guard⟩ (by simp) rfl) rfl rfl
        refine op_yes rfl rfl rfl rfl eg ?_
        generalize hA : mkAct _ _ g = A
        have h9 : A.tmps[9]?.getD undef = .pointer (some ⟨q, 0, none⟩) := by rw [← hA]; exact mkAct_out2 _ _ _ _ _ rfl rfl
        refine step_val (v := .pointer (some ⟨q, 0, none⟩)) (w' := w') ?_ ⟨rfl, Ext.refl _ _⟩
        simp [execOp, h9, Result.andThen, go_sem]
      case f24_15 =>
        intro f v g w' hJ hfi hb hd
        refine arm_u rfl ?_
        have eg : g 85 = .bool true := value_u (hd ⟨22, .guard⟩ (by simp) rfl) rfl rfl
        refine op_yes rfl rfl rfl rfl eg ?_
        generalize hA : mkAct _ _ g = A
        have h12 : A.tmps[12]?.getD undef = .pointer (some ⟨P2, 0, none⟩) := by rw [← hA]; exact mkAct_out2 _ _ _ _ _ rfl rfl
        have c := hJ.1.cell2
        refine step_val (v := .int .i64 (k : Int)) (w' := w') ?_ ⟨rfl, Ext.refl _ _⟩
        simp [execOp, h12, c, Result.andThen, go_sem]
      case f25_15 =>
        intro f v g w' hJ hfi hb hd
        refine arm_u rfl ?_
        have eg : g 85 = .bool true := value_u (hd ⟨22, .guard⟩ (by simp) rfl) rfl rfl
        refine op_yes rfl rfl rfl rfl eg ?_
        generalize hA : mkAct _ _ g = A
        have h11 : A.tmps[11]?.getD undef = .pointer (some ⟨P1, 0, none⟩) := by rw [← hA]; exact mkAct_out2 _ _ _ _ _ rfl rfl
        have c := hJ.1.cell1
        refine step_val (v := .slice (some ⟨zg, zo, none⟩) nk zc) (w' := w') ?_ ⟨rfl, Ext.refl _ _⟩
        simp [execOp, h11, c, Result.andThen, go_sem]
      case f26_15 =>
        intro f v g w' hJ hfi hb hd
        refine arm_u rfl ?_
        have eg : g 85 = .bool true := value_u (hd ⟨22, .guard⟩ (by simp) rfl) rfl rfl
        refine op_yes rfl rfl rfl rfl eg ?_
        generalize hA : mkAct _ _ g = A
        have h12 : A.tmps[12]?.getD undef = .pointer (some ⟨P2, 0, none⟩) := by rw [← hA]; exact mkAct_out2 _ _ _ _ _ rfl rfl
        have c := hJ.1.cell2
        refine step_val (v := .int .i64 (k : Int)) (w' := w') ?_ ⟨rfl, Ext.refl _ _⟩
        simp [execOp, h12, c, Result.andThen, go_sem]
      case f27_15 =>
        intro f v g w' hJ hfi hb hd
        refine arm_u rfl ?_
        have eg : g 85 = .bool true := value_u (hd ⟨22, .guard⟩ (by simp) rfl) rfl rfl
        refine op_yes rfl rfl rfl rfl eg ?_
        have e88 : g 88 = .slice (some ⟨zg, zo, none⟩) nk zc := value_u (hd ⟨25, .data⟩ (by simp) rfl) rfl rfl
        have e89 : g 89 = .int .i64 (k : Int) := value_u (hd ⟨26, .data⟩ (by simp) rfl) rfl rfl
        generalize hA : mkAct _ _ g = A
        have h88 : A.tmps[88]?.getD undef = .slice (some ⟨zg, zo, none⟩) nk zc := by rw [← hA, mkAct_in2 _ _ _ _ rfl rfl]; exact e88
        have h89 : A.tmps[89]?.getD undef = .int .i64 (k : Int) := by rw [← hA, mkAct_in2 _ _ _ _ rfl rfl]; exact e89
        refine step_val (v := .pointer (some ⟨zg, zo + k, none⟩)) (w' := w') ?_ ⟨rfl, Ext.refl _ _⟩
        simp [execOp, hkl, hk2, h88, h89, Result.andThen, go_sem]
        all_goals (first | exact hkl | omega)
      case f28_15 =>
        intro f v g w' hJ hfi hb hd
        refine arm_u rfl ?_
        have eg : g 85 = .bool true := value_u (hd ⟨22, .guard⟩ (by simp) rfl) rfl rfl
        refine op_yes rfl rfl rfl rfl eg ?_
        have e90 : g 90 = .pointer (some ⟨zg, zo + k, none⟩) := value_u (hd ⟨27, .data⟩ (by simp) rfl) rfl rfl
        generalize hA : mkAct _ _ g = A
        have h90 : A.tmps[90]?.getD undef = .pointer (some ⟨zg, zo + k, none⟩) := by rw [← hA, mkAct_in2 _ _ _ _ rfl rfl]; exact e90
        have c := hJ.1.cellz k p HP.out
        refine step_val (v := .string ⟨p.toArray⟩) (w' := w') ?_ ⟨rfl, Ext.refl _ _⟩
        simp [execOp, h90, c, Result.andThen, go_sem]
      case f29_15 =>
        intro f v g w' hJ hfi hb hd
        refine arm_u rfl ?_
        have eg : g 85 = .bool true := value_u (hd ⟨22, .guard⟩ (by simp) rfl) rfl rfl
        refine op_yes rfl rfl rfl rfl eg ?_
        have e91 : g 91 = .string ⟨p.toArray⟩ := value_u (hd ⟨28, .data⟩ (by simp) rfl) rfl rfl
        generalize hA : mkAct _ _ g = A
        have h91 : A.tmps[91]?.getD undef = .string ⟨p.toArray⟩ := by rw [← hA, mkAct_in2 _ _ _ _ rfl rfl]; exact e91
        refine step_val (v := .string ⟨p1.toArray⟩) (w' := w') ?_ ⟨rfl, Ext.refl _ _⟩
        simp [execOp, hdr, hp1n, hp1m, h91, Result.andThen, go_sem]
        all_goals (first | exact hkl | omega)
      case f30_15 =>
        intro f v g w' hJ hfi hb hd
        refine arms_u rfl ?_
        have eg : g 85 = .bool true := value_u (hd ⟨22, .guard⟩ (by simp) rfl) rfl rfl
        refine op_yes rfl rfl rfl rfl eg ?_
        have e86 : g 86 = .pointer (some ⟨q, 0, none⟩) := value_u (hd ⟨23, .data⟩ (by simp) rfl) rfl rfl
        have e87 : g 87 = .int .i64 (k : Int) := value_u (hd ⟨24, .data⟩ (by simp) rfl) rfl rfl
        have e92 : g 92 = .string ⟨p1.toArray⟩ := value_u (hd ⟨29, .data⟩ (by simp) rfl) rfl rfl
        generalize hA : mkAct _ _ g = A
        have h86 : A.tmps[86]?.getD undef = .pointer (some ⟨q, 0, none⟩) := by rw [← hA, mkAct_in2 _ _ _ _ rfl rfl]; exact e86
        have h87 : A.tmps[87]?.getD undef = .int .i64 (k : Int) := by rw [← hA, mkAct_in2 _ _ _ _ rfl rfl]; exact e87
        have h92 : A.tmps[92]?.getD undef = .string ⟨p1.toArray⟩ := by rw [← hA, mkAct_in2 _ _ _ _ rfl rfl]; exact e92
        refine mid_u (fun K hK => ?_)
        go_simp
        refine (hJ.1.mend (k : Int) p1 (by omega) hE3).mono ?_
        rintro e w2 ⟨rfl, hw2⟩
        exact hK (.int .i64 1) w2 ⟨hw2, hJ.2.set (by rw [hSV]; simp)⟩
      case f31_15 =>
        intro f v g w' hJ hfi hb hd
        refine arm_u rfl ?_
        have eg : g 85 = .bool true := value_u (hd ⟨22, .guard⟩ (by simp) rfl) rfl rfl
        refine op_yes rfl rfl rfl rfl eg ?_
        obtain ⟨hf93, e93⟩ := special_u (hd ⟨30, .data⟩ (by simp) rfl) rfl rfl
        replace e93 : g 93 = v 30 := e93
        have e93x : v 30 = .int .i64 1 := hJ.2 (30, _) (by rw [hSV]; simp) hf93
        rw [e93x] at e93
        generalize hA : mkAct _ _ g = A
        have h93 : A.tmps[93]?.getD undef = .int .i64 1 := by rw [← hA, mkAct_in2 _ _ _ _ rfl rfl]; exact e93
        refine step_val (v := .bool true) (w' := w') ?_ ⟨rfl, Ext.refl _ _⟩
        simp [execOp, h93, Result.andThen, go_sem]
      case f32_15 =>
        intro f v g w' hJ hfi hb hd
        refine arm_u rfl ?_
        refine op_run rfl ?_
        have e85 : g 85 = .bool true := value_u (hd ⟨22, .data⟩ (by simp) rfl) rfl rfl
        have e94 : g 94 = .bool true := value_u (hd ⟨31, .data⟩ (by simp) rfl) rfl rfl
        generalize hA : mkAct _ _ g = A
        have h85 : A.tmps[85]?.getD undef = .bool true := by rw [← hA, mkAct_in2 _ _ _ _ rfl rfl]; exact e85
        have h94 : A.tmps[94]?.getD undef = .bool true := by rw [← hA, mkAct_in2 _ _ _ _ rfl rfl]; exact e94
        refine step_val (v := .bool true) (w' := w') ?_ ⟨rfl, Ext.refl _ _⟩
        simp [execOp, h85, h94, Result.andThen, go_sem]
      case f33_15 =>
        intro f v g w' hJ hfi hb hd
        refine arm_u rfl ?_
        refine op_run rfl ?_
        have e95 : g 95 = .bool true := value_u (hd ⟨32, .data⟩ (by simp) rfl) rfl rfl
        generalize hA : mkAct _ _ g = A
        have h95 : A.tmps[95]?.getD undef = .bool true := by rw [← hA, mkAct_in2 _ _ _ _ rfl rfl]; exact e95
        refine step_val (v := .bool true) (w' := w') ?_ ⟨rfl, Ext.refl _ _⟩
        simp [execOp, h95, Result.andThen, go_sem]
      case f34_15 =>
        intro f v g w' hJ hfi hb hd
        refine arm_u rfl ?_
        have eg : g 96 = .bool true := value_u (hd ⟨33, .guard⟩ (by simp) rfl) rfl rfl
        refine op_yes rfl rfl rfl rfl eg ?_
        generalize hA : mkAct _ _ g = A
        have h9 : A.tmps[9]?.getD undef = .pointer (some ⟨q, 0, none⟩) := by rw [← hA]; exact mkAct_out2 _ _ _ _ _ rfl rfl
        refine step_val (v := .pointer (some ⟨q, 0, none⟩)) (w' := w') ?_ ⟨rfl, Ext.refl _ _⟩
        simp [execOp, h9, Result.andThen, go_sem]
      case f35_15 =>
        intro f v g w' hJ hfi hb hd
        refine arm_u rfl ?_
        have eg : g 96 = .bool true := value_u (hd ⟨33, .guard⟩ (by simp) rfl) rfl rfl
        refine op_yes rfl rfl rfl rfl eg ?_
        generalize hA : mkAct _ _ g = A
        have h11 : A.tmps[11]?.getD undef = .pointer (some ⟨P1, 0, none⟩) := by rw [← hA]; exact mkAct_out2 _ _ _ _ _ rfl rfl
        have c := hJ.1.cell1
        refine step_val (v := .slice (some ⟨zg, zo, none⟩) nk zc) (w' := w') ?_ ⟨rfl, Ext.refl _ _⟩
        simp [execOp, h11, c, Result.andThen, go_sem]
      case f36_15 =>
        intro f v g w' hJ hfi hb hd
        refine arm_u rfl ?_
        have eg : g 96 = .bool true := value_u (hd ⟨33, .guard⟩ (by simp) rfl) rfl rfl
        refine op_yes rfl rfl rfl rfl eg ?_
        have e98 : g 98 = .slice (some ⟨zg, zo, none⟩) nk zc := value_u (hd ⟨35, .data⟩ (by simp) rfl) rfl rfl
        generalize hA : mkAct _ _ g = A
        have h98 : A.tmps[98]?.getD undef = .slice (some ⟨zg, zo, none⟩) nk zc := by rw [← hA, mkAct_in2 _ _ _ _ rfl rfl]; exact e98
        refine step_val (v := .int .i64 (nk : Int)) (w' := w') ?_ ⟨rfl, Ext.refl _ _⟩
        simp [execOp, h98, Result.andThen, go_sem]
      case f37_15 =>
        intro f v g w' hJ hfi hb hd
        refine arm_u rfl ?_
        have eg : g 96 = .bool true := value_u (hd ⟨33, .guard⟩ (by simp) rfl) rfl rfl
        refine op_yes rfl rfl rfl rfl eg ?_
        generalize hA : mkAct _ _ g = A
        have h11 : A.tmps[11]?.getD undef = .pointer (some ⟨P1, 0, none⟩) := by rw [← hA]; exact mkAct_out2 _ _ _ _ _ rfl rfl
        have c := hJ.1.cell1
        refine step_val (v := .slice (some ⟨zg, zo, none⟩) nk zc) (w' := w') ?_ ⟨rfl, Ext.refl _ _⟩
        simp [execOp, h11, c, Result.andThen, go_sem]
      case f38_15 =>
        intro f v g w' hJ hfi hb hd
        refine arm_u rfl ?_
        have eg : g 96 = .bool true := value_u (hd ⟨33, .guard⟩ (by simp) rfl) rfl rfl
        refine op_yes rfl rfl rfl rfl eg ?_
        generalize hA : mkAct _ _ g = A
        have h12 : A.tmps[12]?.getD undef = .pointer (some ⟨P2, 0, none⟩) := by rw [← hA]; exact mkAct_out2 _ _ _ _ _ rfl rfl
        have c := hJ.1.cell2
        refine step_val (v := .int .i64 (k : Int)) (w' := w') ?_ ⟨rfl, Ext.refl _ _⟩
        simp [execOp, h12, c, Result.andThen, go_sem]
      case f39_15 =>
        intro f v g w' hJ hfi hb hd
        refine arm_u rfl ?_
        have eg : g 96 = .bool true := value_u (hd ⟨33, .guard⟩ (by simp) rfl) rfl rfl
        refine op_yes rfl rfl rfl rfl eg ?_
        have e100 : g 100 = .slice (some ⟨zg, zo, none⟩) nk zc := value_u (hd ⟨37, .data⟩ (by simp) rfl) rfl rfl
        have e101 : g 101 = .int .i64 (k : Int) := value_u (hd ⟨38, .data⟩ (by simp) rfl) rfl rfl
        generalize hA : mkAct _ _ g = A
        have h100 : A.tmps[100]?.getD undef = .slice (some ⟨zg, zo, none⟩) nk zc := by rw [← hA, mkAct_in2 _ _ _ _ rfl rfl]; exact e100
        have h101 : A.tmps[101]?.getD undef = .int .i64 (k : Int) := by rw [← hA, mkAct_in2 _ _ _ _ rfl rfl]; exact e101
        refine step_val (v := .pointer (some ⟨zg, zo + k, none⟩)) (w' := w') ?_ ⟨rfl, Ext.refl _ _⟩
        simp [execOp, hkl, hk2, h100, h101, Result.andThen, go_sem]
        all_goals (first | exact hkl | omega)
      case f40_15 =>
        intro f v g w' hJ hfi hb hd
        refine arm_u rfl ?_
        have eg : g 96 = .bool true := value_u (hd ⟨33, .guard⟩ (by simp) rfl) rfl rfl
        refine op_yes rfl rfl rfl rfl eg ?_
        have e102 : g 102 = .pointer (some ⟨zg, zo + k, none⟩) := value_u (hd ⟨39, .data⟩ (by simp) rfl) rfl rfl
        generalize hA : mkAct _ _ g = A
        have h102 : A.tmps[102]?.getD undef = .pointer (some ⟨zg, zo + k, none⟩) := by rw [← hA, mkAct_in2 _ _ _ _ rfl rfl]; exact e102
        have c := hJ.1.cellz k p HP.out
        refine step_val (v := .string ⟨p.toArray⟩) (w' := w') ?_ ⟨rfl, Ext.refl _ _⟩
        simp [execOp, h102, c, Result.andThen, go_sem]
      case f41_15 =>
        intro f v g w' hJ hfi hb hd
        refine arms_u rfl ?_
        have eg : g 96 = .bool true := value_u (hd ⟨33, .guard⟩ (by simp) rfl) rfl rfl
        refine op_yes rfl rfl rfl rfl eg ?_
        have e97 : g 97 = .pointer (some ⟨q, 0, none⟩) := value_u (hd ⟨34, .data⟩ (by simp) rfl) rfl rfl
        have e99 : g 99 = .int .i64 (nk : Int) := value_u (hd ⟨36, .data⟩ (by simp) rfl) rfl rfl
        have e103 : g 103 = .string ⟨p.toArray⟩ := value_u (hd ⟨40, .data⟩ (by simp) rfl) rfl rfl
        generalize hA : mkAct _ _ g = A
        have h97 : A.tmps[97]?.getD undef = .pointer (some ⟨q, 0, none⟩) := by rw [← hA, mkAct_in2 _ _ _ _ rfl rfl]; exact e97
        have h99 : A.tmps[99]?.getD undef = .int .i64 (nk : Int) := by rw [← hA, mkAct_in2 _ _ _ _ rfl rfl]; exact e99
        have h103 : A.tmps[103]?.getD undef = .string ⟨p.toArray⟩ := by rw [← hA, mkAct_in2 _ _ _ _ rfl rfl]; exact e103
        refine mid_u (fun K hK => ?_)
        go_simp
        refine (hJ.1.mend (nk : Int) p (by omega) hE4).mono ?_
        rintro e w2 ⟨rfl, hw2⟩
        exact hK (.int .i64 1) w2 ⟨hw2, hJ.2.set (by rw [hSV]; simp)⟩
      case f42_15 =>
        intro f v g w' hJ hfi hb hd
        refine arm_u rfl ?_
        have eg : g 96 = .bool true := value_u (hd ⟨33, .guard⟩ (by simp) rfl) rfl rfl
        refine op_yes rfl rfl rfl rfl eg ?_
        obtain ⟨hf104, e104⟩ := special_u (hd ⟨41, .data⟩ (by simp) rfl) rfl rfl
        replace e104 : g 104 = v 41 := e104
        have e104x : v 41 = .int .i64 1 := hJ.2 (41, _) (by rw [hSV]; simp) hf104
        rw [e104x] at e104
        generalize hA : mkAct _ _ g = A
        have h104 : A.tmps[104]?.getD undef = .int .i64 1 := by rw [← hA, mkAct_in2 _ _ _ _ rfl rfl]; exact e104
        refine step_val (v := .bool true) (w' := w') ?_ ⟨rfl, Ext.refl _ _⟩
        simp [execOp, h104, Result.andThen, go_sem]
      case f43_15 =>
        intro f v g w' hJ hfi hb hd
        refine arm_u rfl ?_
        refine op_run rfl ?_
        have e96 : g 96 = .bool true := value_u (hd ⟨33, .data⟩ (by simp) rfl) rfl rfl
        have e105 : g 105 = .bool true := value_u (hd ⟨42, .data⟩ (by simp) rfl) rfl rfl
        generalize hA : mkAct _ _ g = A
        have h96 : A.tmps[96]?.getD undef = .bool true := by rw [← hA, mkAct_in2 _ _ _ _ rfl rfl]; exact e96
        have h105 : A.tmps[105]?.getD undef = .bool true := by rw [← hA, mkAct_in2 _ _ _ _ rfl rfl]; exact e105
        refine step_val (v := .bool true) (w' := w') ?_ ⟨rfl, Ext.refl _ _⟩
        simp [execOp, h96, h105, Result.andThen, go_sem]
      case f44_15 =>
        intro f v g w' hJ hfi hb hd
        refine arm_u rfl ?_
        refine op_run rfl ?_
        have e106 : g 106 = .bool true := value_u (hd ⟨43, .data⟩ (by simp) rfl) rfl rfl
        generalize hA : mkAct _ _ g = A
        have h106 : A.tmps[106]?.getD undef = .bool true := by rw [← hA, mkAct_in2 _ _ _ _ rfl rfl]; exact e106
        refine step_val (v := .bool true) (w' := w') ?_ ⟨rfl, Ext.refl _ _⟩
        simp [execOp, h106, Result.andThen, go_sem]
      case f45_15 =>
        intro f v g w' hJ hfi hb hd
        refine arm_u rfl ?_
        have eg : g 107 = .bool true := value_u (hd ⟨44, .guard⟩ (by simp) rfl) rfl rfl
        refine op_yes rfl rfl rfl rfl eg ?_
        generalize hA : mkAct _ _ g = A
        have h9 : A.tmps[9]?.getD undef = .pointer (some ⟨q, 0, none⟩) := by rw [← hA]; exact mkAct_out2 _ _ _ _ _ rfl rfl
        refine step_val (v := .pointer (some ⟨q, 0, none⟩)) (w' := w') ?_ ⟨rfl, Ext.refl _ _⟩
        simp [execOp, h9, Result.andThen, go_sem]
      case f46_15 =>
        intro f v g w' hJ hfi hb hd
        refine arm_u rfl ?_
        have eg : g 107 = .bool true := value_u (hd ⟨44, .guard⟩ (by simp) rfl) rfl rfl
        refine op_yes rfl rfl rfl rfl eg ?_
        generalize hA : mkAct _ _ g = A
        have h2 : A.tmps[2]?.getD undef = .int .i64 ot := by rw [← hA]; exact mkAct_out2 _ _ _ _ _ rfl rfl
        refine step_val (v := .int .i64 ot) (w' := w') ?_ ⟨rfl, Ext.refl _ _⟩
        simp [execOp, h2, Result.andThen, go_sem]
      case f47_15 =>
        intro f v g w' hJ hfi hb hd
        refine arm_u rfl ?_
        have eg : g 107 = .bool true := value_u (hd ⟨44, .guard⟩ (by simp) rfl) rfl rfl
        refine op_yes rfl rfl rfl rfl eg ?_
        have e109 : g 109 = .int .i64 ot := value_u (hd ⟨46, .data⟩ (by simp) rfl) rfl rfl
        generalize hA : mkAct _ _ g = A
        have h109 : A.tmps[109]?.getD undef = .int .i64 ot := by rw [← hA, mkAct_in2 _ _ _ _ rfl rfl]; exact e109
        refine step_val (v := .int .i64 (ot % 8)) (w' := w') ?_ ⟨rfl, Ext.refl _ _⟩
        simp [execOp, h109, Result.andThen, go_sem]
      case f48_15 =>
        intro f v g w' hJ hfi hb hd
        refine arm_u rfl ?_
        have eg : g 107 = .bool true := value_u (hd ⟨44, .guard⟩ (by simp) rfl) rfl rfl
        refine op_yes rfl rfl rfl rfl eg ?_
        have e110 : g 110 = .int .i64 (ot % 8) := value_u (hd ⟨47, .data⟩ (by simp) rfl) rfl rfl
        generalize hA : mkAct _ _ g = A
        have h110 : A.tmps[110]?.getD undef = .int .i64 (ot % 8) := by rw [← hA, mkAct_in2 _ _ _ _ rfl rfl]; exact e110
        refine step_val (v := .int .i64 (-1 - ot % 8)) (w' := w') ?_ ⟨rfl, Ext.refl _ _⟩
        simp [execOp, h110, Result.andThen, go_sem]
        exact IntWalk.i64_in _ ⟨by omega, by omega⟩
      case f49_15 =>
        intro f v g w' hJ hfi hb hd
        refine arm_u rfl ?_
        have eg : g 107 = .bool true := value_u (hd ⟨44, .guard⟩ (by simp) rfl) rfl rfl
        refine op_yes rfl rfl rfl rfl eg ?_
        generalize hA : mkAct _ _ g = A
        have h11 : A.tmps[11]?.getD undef = .pointer (some ⟨P1, 0, none⟩) := by rw [← hA]; exact mkAct_out2 _ _ _ _ _ rfl rfl
        have c := hJ.1.cell1
        refine step_val (v := .slice (some ⟨zg, zo, none⟩) nk zc) (w' := w') ?_ ⟨rfl, Ext.refl _ _⟩
        simp [execOp, h11, c, Result.andThen, go_sem]
      case f50_15 =>
        intro f v g w' hJ hfi hb hd
        refine arm_u rfl ?_
        have eg : g 107 = .bool true := value_u (hd ⟨44, .guard⟩ (by simp) rfl) rfl rfl
        refine op_yes rfl rfl rfl rfl eg ?_
        generalize hA : mkAct _ _ g = A
        have h12 : A.tmps[12]?.getD undef = .pointer (some ⟨P2, 0, none⟩) := by rw [← hA]; exact mkAct_out2 _ _ _ _ _ rfl rfl
        have c := hJ.1.cell2
        refine step_val (v := .int .i64 (k : Int)) (w' := w') ?_ ⟨rfl, Ext.refl _ _⟩
        simp [execOp, h12, c, Result.andThen, go_sem]
      case f51_15 =>
        intro f v g w' hJ hfi hb hd
        refine arm_u rfl ?_
        have eg : g 107 = .bool true := value_u (hd ⟨44, .guard⟩ (by simp) rfl) rfl rfl
        refine op_yes rfl rfl rfl rfl eg ?_
        have e112 : g 112 = .slice (some ⟨zg, zo, none⟩) nk zc := value_u (hd ⟨49, .data⟩ (by simp) rfl) rfl rfl
        have e113 : g 113 = .int .i64 (k : Int) := value_u (hd ⟨50, .data⟩ (by simp) rfl) rfl rfl
        generalize hA : mkAct _ _ g = A
        have h112 : A.tmps[112]?.getD undef = .slice (some ⟨zg, zo, none⟩) nk zc := by rw [← hA, mkAct_in2 _ _ _ _ rfl rfl]; exact e112
        have h113 : A.tmps[113]?.getD undef = .int .i64 (k : Int) := by rw [← hA, mkAct_in2 _ _ _ _ rfl rfl]; exact e113
        refine step_val (v := .pointer (some ⟨zg, zo + k, none⟩)) (w' := w') ?_ ⟨rfl, Ext.refl _ _⟩
        simp [execOp, hkl, hk2, h112, h113, Result.andThen, go_sem]
        all_goals (first | exact hkl | omega)
      case f52_15 =>
        intro f v g w' hJ hfi hb hd
        refine arm_u rfl ?_
        have eg : g 107 = .bool true := value_u (hd ⟨44, .guard⟩ (by simp) rfl) rfl rfl
        refine op_yes rfl rfl rfl rfl eg ?_
        have e114 : g 114 = .pointer (some ⟨zg, zo + k, none⟩) := value_u (hd ⟨51, .data⟩ (by simp) rfl) rfl rfl
        generalize hA : mkAct _ _ g = A
        have h114 : A.tmps[114]?.getD undef = .pointer (some ⟨zg, zo + k, none⟩) := by rw [← hA, mkAct_in2 _ _ _ _ rfl rfl]; exact e114
        have c := hJ.1.cellz k p HP.out
        refine step_val (v := .string ⟨p.toArray⟩) (w' := w') ?_ ⟨rfl, Ext.refl _ _⟩
        simp [execOp, h114, c, Result.andThen, go_sem]
      case f53_15 =>
        intro f v g w' hJ hfi hb hd
        refine arms_u rfl ?_
        have eg : g 107 = .bool true := value_u (hd ⟨44, .guard⟩ (by simp) rfl) rfl rfl
        refine op_yes rfl rfl rfl rfl eg ?_
        have e108 : g 108 = .pointer (some ⟨q, 0, none⟩) := value_u (hd ⟨45, .data⟩ (by simp) rfl) rfl rfl
        have e111 : g 111 = .int .i64 (-1 - ot % 8) := value_u (hd ⟨48, .data⟩ (by simp) rfl) rfl rfl
        have e115 : g 115 = .string ⟨p.toArray⟩ := value_u (hd ⟨52, .data⟩ (by simp) rfl) rfl rfl
        generalize hA : mkAct _ _ g = A
        have h108 : A.tmps[108]?.getD undef = .pointer (some ⟨q, 0, none⟩) := by rw [← hA, mkAct_in2 _ _ _ _ rfl rfl]; exact e108
        have h111 : A.tmps[111]?.getD undef = .int .i64 (-1 - ot % 8) := by rw [← hA, mkAct_in2 _ _ _ _ rfl rfl]; exact e111
        have h115 : A.tmps[115]?.getD undef = .string ⟨p.toArray⟩ := by rw [← hA, mkAct_in2 _ _ _ _ rfl rfl]; exact e115
        refine mid_u (fun K hK => ?_)
        go_simp
        refine (hJ.1.mend (-1 - ot % 8) p (by omega) hE5).mono ?_
        rintro e w2 ⟨rfl, hw2⟩
        exact hK (.int .i64 1) w2 ⟨hw2, hJ.2.set (by rw [hSV]; simp)⟩
      case f54_15 =>
        intro f v g w' hJ hfi hb hd
        refine arm_u rfl ?_
        have eg : g 107 = .bool true := value_u (hd ⟨44, .guard⟩ (by simp) rfl) rfl rfl
        refine op_yes rfl rfl rfl rfl eg ?_
        obtain ⟨hf116, e116⟩ := special_u (hd ⟨53, .data⟩ (by simp) rfl) rfl rfl
        replace e116 : g 116 = v 53 := e116
        have e116x : v 53 = .int .i64 1 := hJ.2 (53, _) (by rw [hSV]; simp) hf116
        rw [e116x] at e116
        generalize hA : mkAct _ _ g = A
        have h116 : A.tmps[116]?.getD undef = .int .i64 1 := by rw [← hA, mkAct_in2 _ _ _ _ rfl rfl]; exact e116
        refine step_val (v := .bool true) (w' := w') ?_ ⟨rfl, Ext.refl _ _⟩
        simp [execOp, h116, Result.andThen, go_sem]
      case f55_15 =>
        intro f v g w' hJ hfi hb hd
        refine arm_u rfl ?_
        refine op_run rfl ?_
        have e107 : g 107 = .bool true := value_u (hd ⟨44, .data⟩ (by simp) rfl) rfl rfl
        have e117 : g 117 = .bool true := value_u (hd ⟨54, .data⟩ (by simp) rfl) rfl rfl
        generalize hA : mkAct _ _ g = A
        have h107 : A.tmps[107]?.getD undef = .bool true := by rw [← hA, mkAct_in2 _ _ _ _ rfl rfl]; exact e107
        have h117 : A.tmps[117]?.getD undef = .bool true := by rw [← hA, mkAct_in2 _ _ _ _ rfl rfl]; exact e117
        refine step_val (v := .bool true) (w' := w') ?_ ⟨rfl, Ext.refl _ _⟩
        simp [execOp, h107, h117, Result.andThen, go_sem]
      case f56_15 =>
        intro f v g w' hJ hfi hb hd
        refine arm_u rfl ?_
        refine op_run rfl ?_
        have e118 : g 118 = .bool true := value_u (hd ⟨55, .data⟩ (by simp) rfl) rfl rfl
        generalize hA : mkAct _ _ g = A
        have h118 : A.tmps[118]?.getD undef = .bool true := by rw [← hA, mkAct_in2 _ _ _ _ rfl rfl]; exact e118
        refine step_val (v := .bool true) (w' := w') ?_ ⟨rfl, Ext.refl _ _⟩
        simp [execOp, h118, Result.andThen, go_sem]
    intro f v g wn hJ hk
    have e6 : g 6 = .bool true := value_u (hk 56 (by decide)) rfl rfl
    obtain ⟨D9, V9, hs9, -⟩ := hJ.1.dev
    have HXe := Hid.of hs9.dev.ext
    clear hk hJ hs9 HO3
    unfold mkAct; simp only [List.zipIdx_cons, List.zipIdx_nil, List.map_cons, List.map_nil, Nat.zero_add, Nat.reduceAdd, List.contains_cons, List.contains_nil, Nat.reduceBEq, Bool.or_false, Bool.or_true, ↓reduceIte, Bool.false_eq_true]
    rw [e6]
    go_wp2
    go_ret
    exact ⟨rfl, HXe.out⟩
end Go.Proofs.Ytlnfigbcdmfmdaa
