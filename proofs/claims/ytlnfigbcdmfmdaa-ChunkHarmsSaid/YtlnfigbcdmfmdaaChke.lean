/- Package chunk: listOf. (Printed by wip/gen_chke.py.) -/
import Derived.Test.YtlnfigbcdmfmdaaChkd
import Derived.Test.YtlnfigbcdmfmdaaRegU
namespace Go.Proofs.Ytlnfigbcdmfmdaa
open Go.RowKit
set_option linter.unusedVariables false
set_option linter.unusedSimpArgs false

theorem ent_num (args : Array Value) (w : World) : (callFunc 53 args).run Try.prog w = .ok (.enter 53 args) w := enters_of Try.func53 (by kernel_rfl) rfl args w
theorem ent_done (args : Array Value) (w : World) : (callFunc 54 args).run Try.prog w = .ok (.enter 54 args) w := enters_of Try.func54 (by kernel_rfl) rfl args w
theorem ent_right (args : Array Value) (w : World) : (callFunc 38 args).run Try.prog w = .ok (.enter 38 args) w := enters_of Try.func38 (by kernel_rfl) rfl args w
/-- What listOf hands back. -/
def LsTo (w : World) (r : Rc) (e : Ending) (w' : World) : Prop := ∃ sv, e = .returned (.tuple #[lsv (lsOf r) sv, .bool (lsOk r)]) ∧ Own w' 35 1 sv (lsOf r).sums.length ((lsOf r).sums.map u32c) ∧ Ext [] w w' ∧ ∀ z ∈ vblocks sv, w.heap.size ≤ z
theorem numR_len2 (most : Int) (st : List UInt8 × Bool) : (numR most st).2.1.length ≤ st.1.length := by
  unfold numR
  split
  · simp
  · exact (take_len 6 st).2.2
theorem numsR_len2 : ∀ (n : Nat) (st : List UInt8 × Bool), (numsR n st).2.1.length ≤ st.1.length
  | 0, st => Nat.le_refl _
  | n + 1, st => Nat.le_trans (numsR_len2 n _) (numR_len2 _ st)
set_option maxRecDepth 100000 in
set_option maxHeartbeats 6400000 in
theorem listOf_any (r : Rc) (w : World) (hl : r.data.length ≤ 1000000) : Calls Try.prog 37 #[r.val] w (LsTo w r) := by
  obtain ⟨kd, ix, tm, dd⟩ := r
  simp only at hl
  have HN1 : Hid (lsOf ⟨kd, ix, tm, dd⟩ = ⟨ix, tm, (numR 25600 (dd, false)).1, (numsR (numR 64 (numR 25600 (dd, false)).2).1.toNat (numR 64 (numR 25600 (dd, false)).2).2).1⟩) := Hid.of rfl
  have HN2 : Hid (lsOk ⟨kd, ix, tm, dd⟩ = true ↔ (doneR (numsR (numR 64 (numR 25600 (dd, false)).2).1.toNat (numR 64 (numR 25600 (dd, false)).2).2).2 = 0 ∧ kd = 4 ∧ (lsOf ⟨kd, ix, tm, dd⟩).right)) := Hid.of decide_eq_true_iff
  have hb0 := numR_le 25600 (dd, false)
  have hb1 := numR_le 64 (numR 25600 (dd, false)).2
  have hl1 := numR_len2 25600 (dd, false)
  have hl2 := numR_len2 64 (numR 25600 (dd, false)).2
  have cr := fun w' => read_any dd w'
  have cn1 := fun b w' h => rnum_any b 25600 (dd, false) w' h (by simp only; omega)
  have cn2 := fun b w' h => rnum_any b 64 (numR 25600 (dd, false)).2 w' h (by simp only at hl1; omega)
  simp only at hl1
  generalize hp1 : numR 25600 (dd, false) = p1 at HN1 HN2 hb0 hb1 hl1 hl2 cn1 cn2
  obtain ⟨B, s1⟩ := p1
  simp only at HN1 HN2 hb0 hb1 hl1 hl2 cn1 cn2
  generalize hp2 : numR 64 s1 = p2 at HN1 HN2 hb1 hl2 cn2
  obtain ⟨N, s2⟩ := p2
  simp only at HN1 HN2 hb1 hl2 cn2
  obtain ⟨n, rfl⟩ : ∃ n : Nat, N = n := ⟨N.toNat, by omega⟩
  simp only [Int.toNat_natCast] at HN1 HN2
  clear hp1 hp2
  have hn64 : n ≤ 64 := by omega
  have hB0 : 0 ≤ B := by omega
  have hB1 : B ≤ 25600 := by omega
  have hls : ∀ k, (numsR k s2).2.1.length ≤ 1000000 := fun k => by have := numsR_len2 k s2; omega
  have hlk := fun k => numsR_length k s2
  have HS := Hid.of (fun k => numsR_snoc k s2)
  have HF := Hid.of (fun k => numsR_length k s2)
  unfold Rc.val
  simp only
  clear hb0 hb1 hl1 hl2 hl
  go_enter Try.func37, Try.ntmps37
  obtain ⟨E, hE⟩ : ∃ E, w.heap.size = E := ⟨_, rfl⟩
  obtain ⟨W, hW⟩ : ∃ W, W = (w.alloc (.cells #[.int .i64 kd, .int .i64 ix, .int .i64 tm, .string ⟨dd.toArray⟩] 63)).alloc (.cells #[.int .i64 0, .int .i64 0, .int .i64 0, .slice none 0 0] 42) := ⟨_, rfl⟩
  have hxW : Ext [] w W := by rw [hW]; exact ((Ext.refl _ _).alloc _).alloc _
  have hsW : W.heap.size = E + 2 := by rw [← hE, hW]; simp
  have hbE : Blk W E 63 [.int .i64 kd, .int .i64 ix, .int .i64 tm, str dd] := by rw [← hE, hW]; exact (Blk.new w 63 #[.int .i64 kd, .int .i64 ix, .int .i64 tm, str dd]).alloc _
  have hbR : Blk W (E + 1) 42 [.int .i64 0, .int .i64 0, .int .i64 0, .slice none 0 0] := by
    rw [← hE, hW]
    have := Blk.new (w.alloc (.cells #[.int .i64 kd, .int .i64 ix, .int .i64 tm, .string ⟨dd.toArray⟩] 63)) 42 #[.int .i64 0, .int .i64 0, .int .i64 0, .slice none 0 0]
    simpa using this
  go_wp2_with fail
  rw [← hW]
  clear hW
  refine (cr W).mono ?_
  rintro e w1 ⟨rfl, hR1, hx1⟩
  rw [hsW] at hR1
  rw [hsW]
  have hb1 := Blk.keep hbE hx1 (by simp)
  have hr1 := Blk.keep hbR hx1 (by simp)
  have hxw1 := hxW.then0 hx1
  have hRl := hR1.lt
  clear hbE hbR hxW hx1 cr
  go_upto_region 2 with fail
  go_cut [5] (fun v wx => ∃ L, v = .pointer (some ⟨L, 0, none⟩) ∧ Hid (w1.heap.size ≤ L ∧ Blk wx L 42 [.int .i64 ix, .int .i64 tm, .int .i64 B, .slice none 0 0] ∧ IsR wx (E + 2) s1 ∧ Ext [E + 2] w1 wx))
  case first =>
    refine wp_region_u [9, 10, 11, 12, 13, 14, 15, 5] [5, 7, 8] (fun n => match n with | 0 => .pointer (some ⟨E, 1, none⟩) | 1 => .int .i64 ix | 2 => .pointer (some ⟨E, 2, none⟩) | 3 => .int .i64 tm | 4 => .pointer (some ⟨(E + 2), 0, none⟩) | 6 => .agg #[.int .i64 ix, .int .i64 tm, .int .i64 B, .slice none 0 0] | _ => undef) (fun f v w => Ext [E + 2] w1 w ∧ (f 5 = false → IsR w (E + 2) (dd, false)) ∧ (f 5 = true → IsR w (E + 2) s1 ∧ v 5 = .int .i64 B) ∧ (f 7 = true → ∃ L, v 7 = .pointer (some ⟨L, 0, none⟩) ∧ w1.heap.size ≤ L ∧ (f 8 = false → Blk w L 42 [.int .i64 0, .int .i64 0, .int .i64 0, .slice none 0 0]) ∧ (f 8 = true → Blk w L 42 [.int .i64 ix, .int .i64 tm, .int .i64 B, .slice none 0 0]))) (by kernel_rfl) (by kernel_rfl) ?hst0_2 ?h00_2 ?hst_2 ?hend_2
    case hst0_2 =>
      rintro f v w w' ⟨hx, j1, j2, j3⟩ hx2
      refine ⟨hx.then0 hx2, fun h => (j1 h).keep hx2 List.not_mem_nil, fun h => ⟨(j2 h).1.keep hx2 List.not_mem_nil, (j2 h).2⟩, fun h => ?_⟩
      obtain ⟨L, eL, hL, jz, jn⟩ := j3 h
      exact ⟨L, eL, hL, fun h8 => Blk.keep (jz h8) hx2 List.not_mem_nil, fun h8 => Blk.keep (jn h8) hx2 List.not_mem_nil⟩
    case h00_2 =>
      exact ⟨Ext.refl _ _, fun _ => hR1, fun h => (by cases h), fun h => (by cases h)⟩
    case hst_2 =>
      refine ⟨?f0_2, ?f1_2, ?f2_2, ?f3_2, ?f4_2, ?f5_2, ?f6_2, ?f7_2, ?f8_2, trivial⟩
      case f0_2 =>
        intro f v g w' hJ hfi hb hd
        refine arm_u rfl ?_
        refine op_run rfl ?_
        generalize hA : mkAct _ _ g = A
        have h1 : A.tmps[1]?.getD undef = .pointer (some ⟨E, 0, none⟩) := by rw [← hA]; exact mkAct_out2 _ _ _ _ _ rfl rfl
        refine step_val (v := .pointer (some ⟨E, 1, none⟩)) (w' := w') ?_ ⟨rfl, Ext.refl _ _⟩
        simp [execOp, h1, Result.andThen, go_sem]
      case f1_2 =>
        intro f v g w' hJ hfi hb hd
        refine arm_u rfl ?_
        refine op_run rfl ?_
        have e9 : g 9 = .pointer (some ⟨E, 1, none⟩) := value_u (hd ⟨0, .data⟩ (by simp) rfl) rfl rfl
        generalize hA : mkAct _ _ g = A
        have h9 : A.tmps[9]?.getD undef = .pointer (some ⟨E, 1, none⟩) := by rw [← hA, mkAct_in2 _ _ _ _ rfl rfl]; exact e9
        have c := (Blk.c (Blk.keep hb1 hJ.1 (by simp)) 1)
        refine step_val (v := .int .i64 ix) (w' := w') ?_ ⟨rfl, Ext.refl _ _⟩
        simp [execOp, h9, c, Result.andThen, go_sem]
      case f2_2 =>
        intro f v g w' hJ hfi hb hd
        refine arm_u rfl ?_
        refine op_run rfl ?_
        generalize hA : mkAct _ _ g = A
        have h1 : A.tmps[1]?.getD undef = .pointer (some ⟨E, 0, none⟩) := by rw [← hA]; exact mkAct_out2 _ _ _ _ _ rfl rfl
        refine step_val (v := .pointer (some ⟨E, 2, none⟩)) (w' := w') ?_ ⟨rfl, Ext.refl _ _⟩
        simp [execOp, h1, Result.andThen, go_sem]
      case f3_2 =>
        intro f v g w' hJ hfi hb hd
        refine arm_u rfl ?_
        refine op_run rfl ?_
        have e11 : g 11 = .pointer (some ⟨E, 2, none⟩) := value_u (hd ⟨2, .data⟩ (by simp) rfl) rfl rfl
        generalize hA : mkAct _ _ g = A
        have h11 : A.tmps[11]?.getD undef = .pointer (some ⟨E, 2, none⟩) := by rw [← hA, mkAct_in2 _ _ _ _ rfl rfl]; exact e11
        have c := (Blk.c (Blk.keep hb1 hJ.1 (by simp)) 2)
        refine step_val (v := .int .i64 tm) (w' := w') ?_ ⟨rfl, Ext.refl _ _⟩
        simp [execOp, h11, c, Result.andThen, go_sem]
      case f4_2 =>
        intro f v g w' hJ hfi hb hd
        refine arm_u rfl ?_
        refine op_run rfl ?_
        generalize hA : mkAct _ _ g = A
        have h4 : A.tmps[4]?.getD undef = .pointer (some ⟨(E + 2), 0, none⟩) := by rw [← hA]; exact mkAct_out2 _ _ _ _ _ rfl rfl
        refine step_val (v := .pointer (some ⟨(E + 2), 0, none⟩)) (w' := w') ?_ ⟨rfl, Ext.refl _ _⟩
        simp [execOp, h4, Result.andThen, go_sem]
      case f5_2 =>
        intro f v g w' hJ hfi hb hd
        refine arms_u rfl ?_
        refine op_run rfl ?_
        have e13 : g 13 = .pointer (some ⟨(E + 2), 0, none⟩) := value_u (hd ⟨4, .data⟩ (by simp) rfl) rfl rfl
        obtain ⟨hx, j1, j2, j3⟩ := hJ
        generalize hA : mkAct _ _ g = A
        have h13 : A.tmps[13]?.getD undef = .pointer (some ⟨(E + 2), 0, none⟩) := by rw [← hA, mkAct_in2 _ _ _ _ rfl rfl]; exact e13
        refine mid_u (fun K hK => ?_)
        go_simp
        refine (cn1 (E + 2) _ (j1 hfi)).mono ?_
        rintro e w2 ⟨rfl, hR2, hx2⟩
        exact hK (.int .i64 B) w2 ⟨hx.trans hx2 (fun z hz => .inl hz), fun h => (by cases h), fun _ => ⟨hR2, rfl⟩, fun h => by
          obtain ⟨L, eL, hL, jz, jn⟩ := j3 h
          have hne : L ∉ [E + 2] := by simp; omega
          exact ⟨L, eL, hL, fun h8 => Blk.keep (jz h8) hx2 hne, fun h8 => Blk.keep (jn h8) hx2 hne⟩⟩
      case f6_2 =>
        intro f v g w' hJ hfi hb hd
        refine arm_u rfl ?_
        refine op_run rfl ?_
        have e10 : g 10 = .int .i64 ix := value_u (hd ⟨1, .data⟩ (by simp) rfl) rfl rfl
        have e12 : g 12 = .int .i64 tm := value_u (hd ⟨3, .data⟩ (by simp) rfl) rfl rfl
        obtain ⟨hf14, e14⟩ := special_u (hd ⟨5, .data⟩ (by simp) rfl) rfl rfl
        replace e14 : g 14 = v 5 := e14
        rw [(hJ.2.2.1 hf14).2] at e14
        generalize hA : mkAct _ _ g = A
        have h10 : A.tmps[10]?.getD undef = .int .i64 ix := by rw [← hA, mkAct_in2 _ _ _ _ rfl rfl]; exact e10
        have h12 : A.tmps[12]?.getD undef = .int .i64 tm := by rw [← hA, mkAct_in2 _ _ _ _ rfl rfl]; exact e12
        have h14 : A.tmps[14]?.getD undef = .int .i64 B := by rw [← hA, mkAct_in2 _ _ _ _ rfl rfl]; exact e14
        refine step_val (v := .agg #[.int .i64 ix, .int .i64 tm, .int .i64 B, .slice none 0 0]) (w' := w') ?_ ⟨rfl, Ext.refl _ _⟩
        simp [execOp, h10, h12, h14, Result.andThen, go_sem]
      case f7_2 =>
        intro f v g w' hJ hfi hb hd
        refine arms_u rfl ?_
        refine op_run rfl ?_
        obtain ⟨hx, j1, j2, j3⟩ := hJ
        generalize hA : mkAct _ _ g = A
        have hxa : Ext [] w' (w'.alloc (.cells #[.int .i64 0, .int .i64 0, .int .i64 0, .slice none 0 0] 42)) := (Ext.refl _ _).alloc _
        refine step_val (v := .pointer (some ⟨w'.heap.size, 0, none⟩)) (w' := w'.alloc (.cells #[.int .i64 0, .int .i64 0, .int .i64 0, .slice none 0 0] 42)) ?_ ⟨_, rfl, hx.then0 hxa, fun h => (j1 h).keep hxa List.not_mem_nil, fun h => ⟨(j2 h).1.keep hxa List.not_mem_nil, (j2 h).2⟩, fun _ => ⟨w'.heap.size, setU_same _ _ _, hx.size, fun _ => Blk.new w' 42 #[.int .i64 0, .int .i64 0, .int .i64 0, .slice none 0 0], fun h8 => by have h8' : f 8 = true := h8; rw [not_yet hb (by kernel_rfl)] at h8'; cases h8'⟩⟩
        simp [execOp, Result.andThen, go_sem]
      case f8_2 =>
        intro f v g w' hJ hfi hb hd
        refine arms_u rfl ?_
        refine op_run rfl ?_
        obtain ⟨hf5, e5⟩ := special_u (hd ⟨7, .data⟩ (by simp) rfl) rfl rfl
        replace e5 : g 5 = v 7 := e5
        have e15 : g 15 = .agg #[.int .i64 ix, .int .i64 tm, .int .i64 B, .slice none 0 0] := value_u (hd ⟨6, .data⟩ (by simp) rfl) rfl rfl
        obtain ⟨hx, j1, j2, j3⟩ := hJ
        obtain ⟨L, eL, hL, jz, jn⟩ := j3 hf5
        rw [eL] at e5
        have hB0 := jz hfi
        generalize hA : mkAct _ _ g = A
        have h5 : A.tmps[5]?.getD undef = .pointer (some ⟨L, 0, none⟩) := by rw [← hA, mkAct_in2 _ _ _ _ rfl rfl]; exact e5
        have h15 : A.tmps[15]?.getD undef = .agg #[.int .i64 ix, .int .i64 tm, .int .i64 B, .slice none 0 0] := by rw [← hA, mkAct_in2 _ _ _ _ rfl rfl]; exact e15
        have c0 : w'.cell? ⟨L, 0, none⟩ = some (.int .i64 0) := Blk.c hB0 0
        have c1 : w'.cell? ⟨L, 1, none⟩ = some (.int .i64 0) := Blk.c hB0 1
        have c2 : w'.cell? ⟨L, 2, none⟩ = some (.int .i64 0) := Blk.c hB0 2
        have c3 : w'.cell? ⟨L, 3, none⟩ = some (.slice none 0 0) := Blk.c hB0 3
        have cf := fun j => Blk.f hB0 j
        have cl := Blk.lt hB0
        have HX9 : Ext [L] w' ((((w'.setCell ⟨L, 0, none⟩ (.int .i64 ix)).setCell ⟨L, 1, none⟩ (.int .i64 tm)).setCell ⟨L, 2, none⟩ (.int .i64 B)).setCell ⟨L, 3, none⟩ (.slice none 0 0)) := (((((Ext.refl [L] w').setCell (p := ⟨L, 0, none⟩) (.inl (List.mem_singleton.2 rfl)) (.int .i64 ix)).setCell (p := ⟨L, 1, none⟩) (.inl (List.mem_singleton.2 rfl)) (.int .i64 tm)).setCell (p := ⟨L, 2, none⟩) (.inl (List.mem_singleton.2 rfl)) (.int .i64 B)).setCell (p := ⟨L, 3, none⟩) (.inl (List.mem_singleton.2 rfl)) (.slice none 0 0))
        have HB9 := (Blk.set (Blk.set (Blk.set (Blk.set hB0 0 (.int .i64 ix)) 1 (.int .i64 tm)) 2 (.int .i64 B)) 3 (.slice none 0 0))
        have hne : E + 2 ∉ [L] := by simp; omega
        refine step_skip (w' := ((((w'.setCell ⟨L, 0, none⟩ (.int .i64 ix)).setCell ⟨L, 1, none⟩ (.int .i64 tm)).setCell ⟨L, 2, none⟩ (.int .i64 B)).setCell ⟨L, 3, none⟩ (.slice none 0 0))) ?_ ⟨undef, rfl, hx.trans HX9 (fun z hz => by simp at hz; subst hz; exact .inr hL), fun h => (j1 h).keep HX9 hne, fun h => ⟨(j2 h).1.keep HX9 hne, (j2 h).2⟩, fun _ => ⟨L, eL, hL, fun h => (by cases h), fun _ => HB9⟩⟩
        simp [execOp, h5, h15, c0, c1, c2, c3, cf, cl, Result.andThen, go_sem]
    intro f v g wn hJ hk
    obtain ⟨hf5, e5⟩ := special_u (hk 7 (by decide)) rfl rfl
    replace e5 : g 5 = v 7 := e5
    have hfs8 : f 8 = true := ((hk 8 (by decide)).2 rfl).1
    obtain ⟨hx, j1, j2, j3⟩ := hJ
    obtain ⟨L, eL, hL, jz, jn⟩ := j3 hf5
    rw [eL] at e5
    have hBL := jn hfs8
    have hR9 := (j2 ((hk 5 (by decide)).2 rfl).1).1
    clear hk j1 j2 j3 jz jn eL
    unfold mkAct; simp only [List.zipIdx_cons, List.zipIdx_nil, List.map_cons, List.map_nil, Nat.zero_add, Nat.reduceAdd, List.contains_cons, List.contains_nil, Nat.reduceBEq, Bool.or_false, Bool.or_true, ↓reduceIte, Bool.false_eq_true]
    rw [e5]
    go_wp2_with fail
    go_meet
    exact ⟨L, rfl, hL, hBL, hR9, hx⟩
  case rest =>
    obtain ⟨L, rfl, hh⟩ := hcut
    obtain ⟨hL, hbL, hR2, hx2⟩ := hh.out
    have hr2 := Blk.keep hr1 hx2 (by simp)
    have hb2 := Blk.keep hb1 hx2 (by simp)
    have hxw2 : Ext [] w wc := hxw1.trans hx2 (by simp; omega)
    have hEL : E + 2 < L := by omega
    have hRl2 := hR2.lt
    clear hb1 hr1 hR1 hx2 hxw1 hh cn1 hRl hL
    go_wp2_with fail
    refine (cn2 (E + 2) wc hR2).mono ?_
    rintro e w3 ⟨rfl, hR3, hx3⟩
    have hr3 := Blk.keep hr2 hx3 (by simp)
    have hb3 := Blk.keep hb2 hx3 (by simp)
    have hl3 := Blk.keep hbL hx3 (by simp; omega)
    have hxw3 : Ext [] w w3 := hxw2.trans hx3 (by simp; omega)
    have hs3 := Blk.lt hl3
    clear hb2 hr2 hR2 hx3 hxw2 cn2 hbL hRl2
    go_wp2_with fail
    go_loopw [18] (fun u18 wr => ∃ (k : Nat) (v : Value), u18 = .int .i64 (k : Int) ∧ k ≤ n ∧ IsR wr (E + 2) (numsR k s2).2 ∧ Blk wr L 42 [.int .i64 ix, .int .i64 tm, .int .i64 B, v] ∧ Own wr 35 1 v k ((numsR k s2).1.map u32c) ∧ (∀ z ∈ vblocks v, w3.heap.size ≤ z) ∧ Ext [E + 2, L] w3 wr) (fun u18 _ => n - (intOf u18).toNat)
    case atStart => exact ⟨0, _, rfl, by omega, hR3, hl3, Own.nil _ _ _, by simp [vblocks], Ext.refl _ _⟩
    case round =>
      obtain ⟨k, v, rfl, hk, hR, hb, ho, hv, hx⟩ := hrel
      by_cases hlt : k < n
      · have hsn := HS.out k
        have hle := hls k
        have hnl := numR_le 4294967295 (numsR k s2).2
        obtain ⟨st, hst⟩ : ∃ st, st = numsR k s2 := ⟨_, rfl⟩
        rw [← hst] at hsn hle hnl hR ho
        have HSN := Hid.of hsn
        have cn := fun w' h => rnum_any (E + 2) 4294967295 st.2 w' h (by omega)
        obtain ⟨y, hy⟩ : ∃ y, y = (numR 4294967295 st.2).1 := ⟨_, rfl⟩
        rw [← hy] at cn hnl hsn
        obtain ⟨x, rfl⟩ : ∃ x : BitVec 32, y = u32v x := ⟨BitVec.ofInt 32 y, by unfold u32v; rw [BitVec.toNat_ofInt]; omega⟩
        rw [ofInt_u32v] at hsn
        have HSN := Hid.of hsn
        have hy0 := u32v_lo x
        have hy1 := u32v_hi x
        have hw32 := wrap_u32v x
        obtain ⟨va, vc, rfl⟩ := Rd.isSlice ho.rd
        have hRl := hR.lt
        clear hst hsn hle hy hnl HF
        have hEL2 : E + 2 ≠ L := by omega
        have hnv : E + 2 ∉ vblocks (.slice va k vc) ∧ L ∉ vblocks (.slice va k vc) := ⟨fun hm => by have := hv _ hm; have := hx.size; omega, fun hm => by have := hv _ hm; omega⟩
        have hxs := hx.size
        have c3 : wr.cell? ⟨L, 3, none⟩ = some (.slice va k vc) := Blk.c hb 3
        go_wp2_with fail
        go_region_law (first
          | (refine step_calls rfl 53 _ _ rfl ent_num #[.pointer (some ⟨E + 2, 0, none⟩), .int .i64 4294967295] (by first | (simp [Act.eval]; done) | (simp [Act.eval, Act.put]; done)) (cn _ (IsR.keep hR ((Ext.refl [] wr).drew) (by simp))) ?_; rintro e w5 ⟨rfl, hR5, hx5⟩; refine ⟨_, rfl, ?_⟩; have HX5 := Hid.of (((Ext.refl [] wr).drew).lift [E + 2] |>.trans hx5 (fun z hz => .inl hz)); have HR5 := Hid.of hR5; have hb5 := Blk.keep hb HX5.out (by simp; omega); have ho5 := ho.keep HX5.out (fun z hz hm => by simp at hm; subst hm; exact hnv.1 hz); have c35 : w5.cell? ⟨L, 3, none⟩ = some (.slice va k vc) := Blk.c hb5 3; have c35a : (w5.alloc (.cells #[.int .u32 (u32v x)] 35)).cell? ⟨L, 3, none⟩ = some (.slice va k vc) := Blk.c (hb5.alloc _) 3; clear hx5 hR5)
          | (refine step_append rfl _ _ _ rfl 35 (.int .u32 0) 1 4 el_sums (.slice va k vc) k _ rfl (ho5.alloc _) (.slice (some ⟨w5.heap.size, 0, none⟩) 1 1) 1 [u32c x] rfl (Rd.lit w5 #[.int .u32 (u32v x)] 35 1 1 rfl (by unfold maxLen; omega)) (by simp [u32c, Value.oneCell']) (by omega) (by unfold maxLen; omega) ?_; intro v6 w6 ho6 hx6 hv6; obtain ⟨a6, c6, rfl⟩ := Rd.isSlice (Own.rd ho6); have hx56 := ((Ext.refl (vblocks (.slice va k vc)) w5).alloc (.cells #[.int .u32 (u32v x)] 35)).trans hx6 (fun z hz => .inl hz); have hb6 := Blk.keep hb5 hx56 hnv.2; have HR6 := Hid.of (IsR.keep HR5.out hx56 hnv.1); have c36 : w6.cell? ⟨L, 3, none⟩ = some (.slice va k vc) := Blk.c hb6 3; have f36 := Blk.f hb6 3))
        all_goals (
          have h5s := HX5.out.size
          have hv6' : ∀ z ∈ vblocks (.slice a6 (k + 1) c6), w3.heap.size ≤ z := (by
            intro z hz
            rcases hv6 with h | h
            · exact hv z (h ▸ hz)
            · rw [h] at hz; simp at hz; omega)
          have hx7 : Ext [E + 2, L] w3 (w6.setCell ⟨L, 3, none⟩ (.slice a6 (k + 1) c6)) := ((hx.trans HX5.out (by simp)).trans hx56 (fun z hz => .inr (hv z hz))).setCell (.inl (by simp)) _
          have hxs7 : Ext [L] w6 (w6.setCell ⟨L, 3, none⟩ (.slice a6 (k + 1) c6)) := (Ext.refl [L] w6).setCell (.inl (by simp)) _
          have hb7 := Blk.set hb6 3 (.slice a6 (k + 1) c6)
          have hR7 : IsR (w6.setCell ⟨L, 3, none⟩ (.slice a6 (k + 1) c6)) (E + 2) (numsR (k + 1) s2).2 := (by rw [HSN.out]; exact IsR.keep HR6.out hxs7 (by simp; omega))
          have ho7 : Own (w6.setCell ⟨L, 3, none⟩ (.slice a6 (k + 1) c6)) 35 1 (.slice a6 (k + 1) c6) (k + 1) ((numsR (k + 1) s2).1.map u32c) := (by
            rw [HSN.out, List.map_append]
            exact ho6.keep hxs7 (fun z hz hm => by simp at hm; subst hm; have := hv6' z hz; omega))
          clear hb6 ho6 hv6 c36 f36 HX5 HR5 HR6 hb5 ho5 c35 c35a c3 hb ho hx hx6 hx56 hxs7 cn hR h5s hxs hnv
          go_wp2
          go_roundw
          case rel => exact ⟨k + 1, _, by go_num, by omega, hR7, hb7, ho7, hv6', hx7⟩
          case measure => simp [intOf]; omega)
      · obtain rfl : k = n := by omega
        have HF9 := HF.out k
        have hr9 := Blk.keep hr3 hx (by simp; omega)
        have hb9 := Blk.keep hb3 hx (by simp; omega)
        have hxw9 : Ext [] w wr := hxw3.trans hx (by simp; omega)
        obtain ⟨va, vc, rfl⟩ := Rd.isSlice ho.rd
        obtain ⟨st, hst⟩ : ∃ st, st = numsR k s2 := ⟨_, rfl⟩
        rw [← hst] at hR ho HN1 HN2 HF9
        clear hst HS HF hls hlk hx hxw3 hr3 hb3
        have cd := fun w' h => rdone_any (E + 2) st.2 w' h
        have HR9 := Hid.of hR
        have HO9 := Hid.of ho
        have HX9 := Hid.of hxw9
        have HV9 := Hid.of hv
        have HB9 := Hid.of hr9
        have a0 : wr.cell? ⟨E, 0, none⟩ = some (.int .i64 kd) := Blk.c hb9 0
        have c0 : wr.cell? ⟨L, 0, none⟩ = some (.int .i64 ix) := Blk.c hb 0
        have c1 : wr.cell? ⟨L, 1, none⟩ = some (.int .i64 tm) := Blk.c hb 1
        have c2 : wr.cell? ⟨L, 2, none⟩ = some (.int .i64 B) := Blk.c hb 2
        have c3 : wr.cell? ⟨L, 3, none⟩ = some (.slice va k vc) := Blk.c hb 3
        have z0 : wr.cell? ⟨E + 1, 0, none⟩ = some (.int .i64 0) := Blk.c hr9 0
        have z1 : wr.cell? ⟨E + 1, 1, none⟩ = some (.int .i64 0) := Blk.c hr9 1
        have z2 : wr.cell? ⟨E + 1, 2, none⟩ = some (.int .i64 0) := Blk.c hr9 2
        have z3 : wr.cell? ⟨E + 1, 3, none⟩ = some (.slice none 0 0) := Blk.c hr9 3
        have zf := fun j => Blk.f hr9 j
        clear hR ho hxw9 hv hr9 hb9 hb
        have hge : w.heap.size ≤ E + 1 := by omega
        have hLE : L ∉ [E + 1] := by simp; omega
        have hEE : E ∉ [E + 1] := by simp
        rcases doneR_cases st.2 with hd | hd
        · rw [hd] at cd
          by_cases hk4 : kd = 4
          · subst hk4
            have hrt : decide ((⟨ix, tm, B, st.1⟩ : Ls).right) = lsOk ⟨4, ix, tm, dd⟩ := by
              rw [← HN1.out]
              cases hlk : lsOk ⟨4, ix, tm, dd⟩ with
              | true => exact decide_eq_true (HN2.out.1 hlk).2.2
              | false => exact decide_eq_false (fun h => by rw [HN2.out.2 ⟨hd, rfl, h⟩] at hlk; cases hlk)
            have hlen9 : st.1.length = k := HF9
            have cg : ∀ w', Ext [E + 1] wr w' → Calls Try.prog 38 #[.agg #[.int .i64 ix, .int .i64 tm, .int .i64 B, .slice va k vc]] w' fun e w'' => e = .returned (.bool (lsOk ⟨4, ix, tm, dd⟩)) ∧ Ext [] w' w'' := by
              intro w' hx'
              rw [← hrt]
              exact right_any ⟨ix, tm, B, st.1⟩ (.slice va k vc) w' (Sums.keep (F := [E + 1]) (show Rd wr 1 _ _ _ by simp only; rw [hlen9]; exact HO9.out.rd) hx' (fun z hz hm => by have h8 := HV9.out z hz; simp at hm; omega)) ⟨hB0, by simp only; omega⟩
            clear hrt
            obtain ⟨ok, hok⟩ : ∃ ok, ok = lsOk ⟨4, ix, tm, dd⟩ := ⟨_, rfl⟩
            rw [← hok] at cg
            have HOK9 := Hid.of hok.symm
            clear hok
            cases ok with
            | true =>
              go_upto_region 7 with fail
              refine wp_region_u [29, 30, 31, 32, 33, 34, 35, 36, 37, 38, 39, 40, 41, 3] [13] (fun n => match n with | 0 => .agg #[.int .i64 ix, .int .i64 tm, .int .i64 B, .slice va k vc] | 1 => .pointer (some ⟨(E + 2), 0, none⟩) | 2 => .int .i64 0 | 3 => .bool true | 4 => .bool true | 5 => .pointer (some ⟨E, 0, none⟩) | 6 => .int .i64 4 | 7 => .bool true | 8 => .bool true | 9 => .bool true | 10 => .agg #[.int .i64 ix, .int .i64 tm, .int .i64 B, .slice va k vc] | 11 => .bool true | 12 => .bool true | 14 => .bool true | _ => undef) (fun f v w => Ext [E + 1] wr w ∧ (f 13 = false → Blk w (E + 1) 42 [.int .i64 0, .int .i64 0, .int .i64 0, .slice none 0 0]) ∧ (f 13 = true → Blk w (E + 1) 42 [.int .i64 ix, .int .i64 tm, .int .i64 B, .slice va k vc])) (by kernel_rfl) (by kernel_rfl) ?hst0_7a ?h00_7a ?hst_7a ?hend_7a
              case hst0_7a =>
                rintro f v w w' ⟨hx, j1, j2⟩ hx2
                exact ⟨hx.then0 hx2, fun h => Blk.keep (j1 h) hx2 List.not_mem_nil, fun h => Blk.keep (j2 h) hx2 List.not_mem_nil⟩
              case h00_7a =>
                exact ⟨Ext.refl _ _, fun _ => HB9.out, fun h => (by cases h)⟩
              case hst_7a =>
                refine ⟨?f0_7a, ?f1_7a, ?f2_7a, ?f3_7a, ?f4_7a, ?f5_7a, ?f6_7a, ?f7_7a, ?f8_7a, ?f9_7a, ?f10_7a, ?f11_7a, ?f12_7a, ?f13_7a, ?f14_7a, trivial⟩
                case f0_7a =>
                  intro f v g w' hJ hfi hb hd
                  refine arm_u rfl ?_
                  refine op_run rfl ?_
                  generalize hA : mkAct _ _ g = A
                  have h5 : A.tmps[5]?.getD undef = .pointer (some ⟨L, 0, none⟩) := by rw [← hA]; exact mkAct_out2 _ _ _ _ _ rfl rfl
                  obtain ⟨d0, d1, d2, d3⟩ := (And.intro ((hJ.1.cell (p := ⟨L, 0, none⟩) hLE c0)) (And.intro ((hJ.1.cell (p := ⟨L, 1, none⟩) hLE c1)) (And.intro ((hJ.1.cell (p := ⟨L, 2, none⟩) hLE c2)) ((hJ.1.cell (p := ⟨L, 3, none⟩) hLE c3)))))
                  refine step_val (v := .agg #[.int .i64 ix, .int .i64 tm, .int .i64 B, .slice va k vc]) (w' := w') ?_ ⟨rfl, Ext.refl _ _⟩
                  simp [execOp, h5, d0, d1, d2, d3, Result.andThen, go_sem]
                case f1_7a =>
                  intro f v g w' hJ hfi hb hd
                  refine arm_u rfl ?_
                  refine op_run rfl ?_
                  generalize hA : mkAct _ _ g = A
                  have h4 : A.tmps[4]?.getD undef = .pointer (some ⟨(E + 2), 0, none⟩) := by rw [← hA]; exact mkAct_out2 _ _ _ _ _ rfl rfl
                  refine step_val (v := .pointer (some ⟨(E + 2), 0, none⟩)) (w' := w') ?_ ⟨rfl, Ext.refl _ _⟩
                  simp [execOp, h4, Result.andThen, go_sem]
                case f2_7a =>
                  intro f v g w' hJ hfi hb hd
                  refine arm_u rfl ?_
                  refine op_run rfl ?_
                  have e30 : g 30 = .pointer (some ⟨(E + 2), 0, none⟩) := value_u (hd ⟨1, .data⟩ (by simp) rfl) rfl rfl
                  generalize hA : mkAct _ _ g = A
                  have h30 : A.tmps[30]?.getD undef = .pointer (some ⟨(E + 2), 0, none⟩) := by rw [← hA, mkAct_in2 _ _ _ _ rfl rfl]; exact e30
                  refine float_u (fun K hK => ?_)
                  go_simp
                  refine (cd w' (IsR.keep HR9.out hJ.1 (by simp))).mono ?_
                  rintro e w2 ⟨rfl, rfl⟩
                  exact hK w' (Ext.refl _ _)
                case f3_7a =>
                  intro f v g w' hJ hfi hb hd
                  refine arm_u rfl ?_
                  refine op_run rfl ?_
                  have e31 : g 31 = .int .i64 0 := value_u (hd ⟨2, .data⟩ (by simp) rfl) rfl rfl
                  generalize hA : mkAct _ _ g = A
                  have h31 : A.tmps[31]?.getD undef = .int .i64 0 := by rw [← hA, mkAct_in2 _ _ _ _ rfl rfl]; exact e31
                  refine step_val (v := .bool true) (w' := w') ?_ ⟨rfl, Ext.refl _ _⟩
                  simp [execOp, h31, Result.andThen, go_sem]
                case f4_7a =>
                  intro f v g w' hJ hfi hb hd
                  refine arm_u rfl ?_
                  refine op_run rfl ?_
                  have e32 : g 32 = .bool true := value_u (hd ⟨3, .data⟩ (by simp) rfl) rfl rfl
                  generalize hA : mkAct _ _ g = A
                  have h32 : A.tmps[32]?.getD undef = .bool true := by rw [← hA, mkAct_in2 _ _ _ _ rfl rfl]; exact e32
                  refine step_val (v := .bool true) (w' := w') ?_ ⟨rfl, Ext.refl _ _⟩
                  simp [execOp, h32, Result.andThen, go_sem]
                case f5_7a =>
                  intro f v g w' hJ hfi hb hd
                  refine arm_u rfl ?_
                  have eg : g 33 = .bool true := value_u (hd ⟨4, .guard⟩ (by simp) rfl) rfl rfl
                  refine op_yes rfl rfl rfl rfl eg ?_
                  generalize hA : mkAct _ _ g = A
                  have h1 : A.tmps[1]?.getD undef = .pointer (some ⟨E, 0, none⟩) := by rw [← hA]; exact mkAct_out2 _ _ _ _ _ rfl rfl
                  refine step_val (v := .pointer (some ⟨E, 0, none⟩)) (w' := w') ?_ ⟨rfl, Ext.refl _ _⟩
                  simp [execOp, h1, Result.andThen, go_sem]
                case f6_7a =>
                  intro f v g w' hJ hfi hb hd
                  refine arm_u rfl ?_
                  have eg : g 33 = .bool true := value_u (hd ⟨4, .guard⟩ (by simp) rfl) rfl rfl
                  refine op_yes rfl rfl rfl rfl eg ?_
                  have e34 : g 34 = .pointer (some ⟨E, 0, none⟩) := value_u (hd ⟨5, .data⟩ (by simp) rfl) rfl rfl
                  generalize hA : mkAct _ _ g = A
                  have h34 : A.tmps[34]?.getD undef = .pointer (some ⟨E, 0, none⟩) := by rw [← hA, mkAct_in2 _ _ _ _ rfl rfl]; exact e34
                  have c := (hJ.1.cell (p := ⟨E, 0, none⟩) hEE a0)
                  refine step_val (v := .int .i64 4) (w' := w') ?_ ⟨rfl, Ext.refl _ _⟩
                  simp [execOp, h34, c, Result.andThen, go_sem]
                case f7_7a =>
                  intro f v g w' hJ hfi hb hd
                  refine arm_u rfl ?_
                  have eg : g 33 = .bool true := value_u (hd ⟨4, .guard⟩ (by simp) rfl) rfl rfl
                  refine op_yes rfl rfl rfl rfl eg ?_
                  have e35 : g 35 = .int .i64 4 := value_u (hd ⟨6, .data⟩ (by simp) rfl) rfl rfl
                  generalize hA : mkAct _ _ g = A
                  have h35 : A.tmps[35]?.getD undef = .int .i64 4 := by rw [← hA, mkAct_in2 _ _ _ _ rfl rfl]; exact e35
                  refine step_val (v := .bool true) (w' := w') ?_ ⟨rfl, Ext.refl _ _⟩
                  simp [execOp, h35, Result.andThen, go_sem]
                case f8_7a =>
                  intro f v g w' hJ hfi hb hd
                  refine arm_u rfl ?_
                  refine op_run rfl ?_
                  have e33 : g 33 = .bool true := value_u (hd ⟨4, .data⟩ (by simp) rfl) rfl rfl
                  have e36 : g 36 = .bool true := value_u (hd ⟨7, .data⟩ (by simp) rfl) rfl rfl
                  generalize hA : mkAct _ _ g = A
                  have h33 : A.tmps[33]?.getD undef = .bool true := by rw [← hA, mkAct_in2 _ _ _ _ rfl rfl]; exact e33
                  have h36 : A.tmps[36]?.getD undef = .bool true := by rw [← hA, mkAct_in2 _ _ _ _ rfl rfl]; exact e36
                  refine step_val (v := .bool true) (w' := w') ?_ ⟨rfl, Ext.refl _ _⟩
                  simp [execOp, h33, h36, Result.andThen, go_sem]
                case f9_7a =>
                  intro f v g w' hJ hfi hb hd
                  refine arm_u rfl ?_
                  refine op_run rfl ?_
                  have e37 : g 37 = .bool true := value_u (hd ⟨8, .data⟩ (by simp) rfl) rfl rfl
                  generalize hA : mkAct _ _ g = A
                  have h37 : A.tmps[37]?.getD undef = .bool true := by rw [← hA, mkAct_in2 _ _ _ _ rfl rfl]; exact e37
                  refine step_val (v := .bool true) (w' := w') ?_ ⟨rfl, Ext.refl _ _⟩
                  simp [execOp, h37, Result.andThen, go_sem]
                case f10_7a =>
                  intro f v g w' hJ hfi hb hd
                  refine arm_u rfl ?_
                  have eg : g 38 = .bool true := value_u (hd ⟨9, .guard⟩ (by simp) rfl) rfl rfl
                  refine op_yes rfl rfl rfl rfl eg ?_
                  generalize hA : mkAct _ _ g = A
                  have h5 : A.tmps[5]?.getD undef = .pointer (some ⟨L, 0, none⟩) := by rw [← hA]; exact mkAct_out2 _ _ _ _ _ rfl rfl
                  obtain ⟨d0, d1, d2, d3⟩ := (And.intro ((hJ.1.cell (p := ⟨L, 0, none⟩) hLE c0)) (And.intro ((hJ.1.cell (p := ⟨L, 1, none⟩) hLE c1)) (And.intro ((hJ.1.cell (p := ⟨L, 2, none⟩) hLE c2)) ((hJ.1.cell (p := ⟨L, 3, none⟩) hLE c3)))))
                  refine step_val (v := .agg #[.int .i64 ix, .int .i64 tm, .int .i64 B, .slice va k vc]) (w' := w') ?_ ⟨rfl, Ext.refl _ _⟩
                  simp [execOp, h5, d0, d1, d2, d3, Result.andThen, go_sem]
                case f11_7a =>
                  intro f v g w' hJ hfi hb hd
                  refine arm_u rfl ?_
                  have eg : g 38 = .bool true := value_u (hd ⟨9, .guard⟩ (by simp) rfl) rfl rfl
                  refine op_yes rfl rfl rfl rfl eg ?_
                  have e39 : g 39 = .agg #[.int .i64 ix, .int .i64 tm, .int .i64 B, .slice va k vc] := value_u (hd ⟨10, .data⟩ (by simp) rfl) rfl rfl
                  generalize hA : mkAct _ _ g = A
                  have h39 : A.tmps[39]?.getD undef = .agg #[.int .i64 ix, .int .i64 tm, .int .i64 B, .slice va k vc] := by rw [← hA, mkAct_in2 _ _ _ _ rfl rfl]; exact e39
                  refine float_u (fun K hK => ?_)
                  go_simp
                  refine (cg w' hJ.1).mono ?_
                  rintro e w2 ⟨rfl, hx2⟩
                  exact hK w2 hx2
                case f12_7a =>
                  intro f v g w' hJ hfi hb hd
                  refine arm_u rfl ?_
                  refine op_run rfl ?_
                  have e38 : g 38 = .bool true := value_u (hd ⟨9, .data⟩ (by simp) rfl) rfl rfl
                  have e40 : g 40 = .bool true := value_u (hd ⟨11, .data⟩ (by simp) rfl) rfl rfl
                  generalize hA : mkAct _ _ g = A
                  have h38 : A.tmps[38]?.getD undef = .bool true := by rw [← hA, mkAct_in2 _ _ _ _ rfl rfl]; exact e38
                  have h40 : A.tmps[40]?.getD undef = .bool true := by rw [← hA, mkAct_in2 _ _ _ _ rfl rfl]; exact e40
                  refine step_val (v := .bool true) (w' := w') ?_ ⟨rfl, Ext.refl _ _⟩
                  simp [execOp, h38, h40, Result.andThen, go_sem]
                case f13_7a =>
                  intro f v g w' hJ hfi hb hd
                  refine arms_u rfl ?_
                  refine op_run rfl ?_
                  have e29 : g 29 = .agg #[.int .i64 ix, .int .i64 tm, .int .i64 B, .slice va k vc] := value_u (hd ⟨0, .data⟩ (by simp) rfl) rfl rfl
                  generalize hA : mkAct _ _ g = A
                  have h2 : A.tmps[2]?.getD undef = .pointer (some ⟨(E + 1), 0, none⟩) := by rw [← hA]; exact mkAct_out2 _ _ _ _ _ rfl rfl
                  have h29 : A.tmps[29]?.getD undef = .agg #[.int .i64 ix, .int .i64 tm, .int .i64 B, .slice va k vc] := by rw [← hA, mkAct_in2 _ _ _ _ rfl rfl]; exact e29
                  have hB0 := hJ.2.1 hfi
                  have c0 : w'.cell? ⟨(E + 1), 0, none⟩ = some (.int .i64 0) := Blk.c hB0 0
                  have c1 : w'.cell? ⟨(E + 1), 1, none⟩ = some (.int .i64 0) := Blk.c hB0 1
                  have c2 : w'.cell? ⟨(E + 1), 2, none⟩ = some (.int .i64 0) := Blk.c hB0 2
                  have c3 : w'.cell? ⟨(E + 1), 3, none⟩ = some (.slice none 0 0) := Blk.c hB0 3
                  have cf := fun j => Blk.f hB0 j
                  have cl := Blk.lt hB0
                  have HX9 : Ext [(E + 1)] w' ((((w'.setCell ⟨(E + 1), 0, none⟩ (.int .i64 ix)).setCell ⟨(E + 1), 1, none⟩ (.int .i64 tm)).setCell ⟨(E + 1), 2, none⟩ (.int .i64 B)).setCell ⟨(E + 1), 3, none⟩ (.slice va k vc)) := (((((Ext.refl [(E + 1)] w').setCell (p := ⟨(E + 1), 0, none⟩) (.inl (List.mem_singleton.2 rfl)) (.int .i64 ix)).setCell (p := ⟨(E + 1), 1, none⟩) (.inl (List.mem_singleton.2 rfl)) (.int .i64 tm)).setCell (p := ⟨(E + 1), 2, none⟩) (.inl (List.mem_singleton.2 rfl)) (.int .i64 B)).setCell (p := ⟨(E + 1), 3, none⟩) (.inl (List.mem_singleton.2 rfl)) (.slice va k vc))
                  have HB9 := (Blk.set (Blk.set (Blk.set (Blk.set hB0 0 (.int .i64 ix)) 1 (.int .i64 tm)) 2 (.int .i64 B)) 3 (.slice va k vc))
                  refine step_skip (w' := ((((w'.setCell ⟨(E + 1), 0, none⟩ (.int .i64 ix)).setCell ⟨(E + 1), 1, none⟩ (.int .i64 tm)).setCell ⟨(E + 1), 2, none⟩ (.int .i64 B)).setCell ⟨(E + 1), 3, none⟩ (.slice va k vc))) ?_ ⟨undef, rfl, hJ.1.trans HX9 (fun z hz => .inl hz), fun h => (by cases h), fun _ => HB9⟩
                  simp [execOp, h2, h29, c0, c1, c2, c3, cf, cl, Result.andThen, go_sem]
                case f14_7a =>
                  intro f v g w' hJ hfi hb hd
                  refine arm_u rfl ?_
                  refine op_run rfl ?_
                  have e41 : g 41 = .bool true := value_u (hd ⟨12, .data⟩ (by simp) rfl) rfl rfl
                  generalize hA : mkAct _ _ g = A
                  have h41 : A.tmps[41]?.getD undef = .bool true := by rw [← hA, mkAct_in2 _ _ _ _ rfl rfl]; exact e41
                  refine step_val (v := .bool true) (w' := w') ?_ ⟨rfl, Ext.refl _ _⟩
                  simp [execOp, h41, Result.andThen, go_sem]
              intro f v g wn hJ hk
              have e3 : g 3 = .bool true := value_u (hk 14 (by decide)) rfl rfl
              have hfs13 : f 13 = true := ((hk 13 (by decide)).2 rfl).1
              obtain ⟨hx9, -, j2⟩ := hJ
              have hb9 := j2 hfs13
              have d0 := Blk.c hb9 0
              have d1 := Blk.c hb9 1
              have d2 := Blk.c hb9 2
              have d3 := Blk.c hb9 3
              simp only [List.getElem?_cons_zero, List.getElem?_cons_succ] at d0 d1 d2 d3
              clear hk
              unfold mkAct; simp only [List.zipIdx_cons, List.zipIdx_nil, List.map_cons, List.map_nil, Nat.zero_add, Nat.reduceAdd, List.contains_cons, List.contains_nil, Nat.reduceBEq, Bool.or_false, Bool.or_true, ↓reduceIte, Bool.false_eq_true]
              rw [e3]
              go_wp2_with fail
              refine bodyPost_ret (v := .tuple #[lsv ⟨ix, tm, B, st.1⟩ (.slice va k vc), .bool true]) (by simp [results, Try.results37, lsv, go_sem, d0, d1, d2, d3]) rfl ?_
              refine ⟨.slice va k vc, by rw [HN1.out, HOK9.out], ?_, HX9.out.trans hx9 (by simp; omega), fun z hz => by have := HV9.out z hz; omega⟩
              rw [HN1.out]
              simp only
              rw [HF9]
              exact HO9.out.keep hx9 (fun z hz hm => by have h8 := HV9.out z hz; simp at hm; omega)
            | false =>
              go_upto_region 7 with fail
              refine wp_region_u [29, 30, 31, 32, 33, 34, 35, 36, 37, 38, 39, 40, 41, 3] [13] (fun n => match n with | 0 => .agg #[.int .i64 ix, .int .i64 tm, .int .i64 B, .slice va k vc] | 1 => .pointer (some ⟨(E + 2), 0, none⟩) | 2 => .int .i64 0 | 3 => .bool true | 4 => .bool true | 5 => .pointer (some ⟨E, 0, none⟩) | 6 => .int .i64 4 | 7 => .bool true | 8 => .bool true | 9 => .bool true | 10 => .agg #[.int .i64 ix, .int .i64 tm, .int .i64 B, .slice va k vc] | 11 => .bool false | 12 => .bool false | 14 => .bool false | _ => undef) (fun f v w => Ext [E + 1] wr w ∧ (f 13 = false → Blk w (E + 1) 42 [.int .i64 0, .int .i64 0, .int .i64 0, .slice none 0 0]) ∧ (f 13 = true → Blk w (E + 1) 42 [.int .i64 ix, .int .i64 tm, .int .i64 B, .slice va k vc])) (by kernel_rfl) (by kernel_rfl) ?hst0_7b ?h00_7b ?hst_7b ?hend_7b
              case hst0_7b =>
                rintro f v w w' ⟨hx, j1, j2⟩ hx2
                exact ⟨hx.then0 hx2, fun h => Blk.keep (j1 h) hx2 List.not_mem_nil, fun h => Blk.keep (j2 h) hx2 List.not_mem_nil⟩
              case h00_7b =>
                exact ⟨Ext.refl _ _, fun _ => HB9.out, fun h => (by cases h)⟩
              case hst_7b =>
                refine ⟨?f0_7b, ?f1_7b, ?f2_7b, ?f3_7b, ?f4_7b, ?f5_7b, ?f6_7b, ?f7_7b, ?f8_7b, ?f9_7b, ?f10_7b, ?f11_7b, ?f12_7b, ?f13_7b, ?f14_7b, trivial⟩
                case f0_7b =>
                  intro f v g w' hJ hfi hb hd
                  refine arm_u rfl ?_
                  refine op_run rfl ?_
                  generalize hA : mkAct _ _ g = A
                  have h5 : A.tmps[5]?.getD undef = .pointer (some ⟨L, 0, none⟩) := by rw [← hA]; exact mkAct_out2 _ _ _ _ _ rfl rfl
                  obtain ⟨d0, d1, d2, d3⟩ := (And.intro ((hJ.1.cell (p := ⟨L, 0, none⟩) hLE c0)) (And.intro ((hJ.1.cell (p := ⟨L, 1, none⟩) hLE c1)) (And.intro ((hJ.1.cell (p := ⟨L, 2, none⟩) hLE c2)) ((hJ.1.cell (p := ⟨L, 3, none⟩) hLE c3)))))
                  refine step_val (v := .agg #[.int .i64 ix, .int .i64 tm, .int .i64 B, .slice va k vc]) (w' := w') ?_ ⟨rfl, Ext.refl _ _⟩
                  simp [execOp, h5, d0, d1, d2, d3, Result.andThen, go_sem]
                case f1_7b =>
                  intro f v g w' hJ hfi hb hd
                  refine arm_u rfl ?_
                  refine op_run rfl ?_
                  generalize hA : mkAct _ _ g = A
                  have h4 : A.tmps[4]?.getD undef = .pointer (some ⟨(E + 2), 0, none⟩) := by rw [← hA]; exact mkAct_out2 _ _ _ _ _ rfl rfl
                  refine step_val (v := .pointer (some ⟨(E + 2), 0, none⟩)) (w' := w') ?_ ⟨rfl, Ext.refl _ _⟩
                  simp [execOp, h4, Result.andThen, go_sem]
                case f2_7b =>
                  intro f v g w' hJ hfi hb hd
                  refine arm_u rfl ?_
                  refine op_run rfl ?_
                  have e30 : g 30 = .pointer (some ⟨(E + 2), 0, none⟩) := value_u (hd ⟨1, .data⟩ (by simp) rfl) rfl rfl
                  generalize hA : mkAct _ _ g = A
                  have h30 : A.tmps[30]?.getD undef = .pointer (some ⟨(E + 2), 0, none⟩) := by rw [← hA, mkAct_in2 _ _ _ _ rfl rfl]; exact e30
                  refine float_u (fun K hK => ?_)
                  go_simp
                  refine (cd w' (IsR.keep HR9.out hJ.1 (by simp))).mono ?_
                  rintro e w2 ⟨rfl, rfl⟩
                  exact hK w' (Ext.refl _ _)
                case f3_7b =>
                  intro f v g w' hJ hfi hb hd
                  refine arm_u rfl ?_
                  refine op_run rfl ?_
                  have e31 : g 31 = .int .i64 0 := value_u (hd ⟨2, .data⟩ (by simp) rfl) rfl rfl
                  generalize hA : mkAct _ _ g = A
                  have h31 : A.tmps[31]?.getD undef = .int .i64 0 := by rw [← hA, mkAct_in2 _ _ _ _ rfl rfl]; exact e31
                  refine step_val (v := .bool true) (w' := w') ?_ ⟨rfl, Ext.refl _ _⟩
                  simp [execOp, h31, Result.andThen, go_sem]
                case f4_7b =>
                  intro f v g w' hJ hfi hb hd
                  refine arm_u rfl ?_
                  refine op_run rfl ?_
                  have e32 : g 32 = .bool true := value_u (hd ⟨3, .data⟩ (by simp) rfl) rfl rfl
                  generalize hA : mkAct _ _ g = A
                  have h32 : A.tmps[32]?.getD undef = .bool true := by rw [← hA, mkAct_in2 _ _ _ _ rfl rfl]; exact e32
                  refine step_val (v := .bool true) (w' := w') ?_ ⟨rfl, Ext.refl _ _⟩
                  simp [execOp, h32, Result.andThen, go_sem]
                case f5_7b =>
                  intro f v g w' hJ hfi hb hd
                  refine arm_u rfl ?_
                  have eg : g 33 = .bool true := value_u (hd ⟨4, .guard⟩ (by simp) rfl) rfl rfl
                  refine op_yes rfl rfl rfl rfl eg ?_
                  generalize hA : mkAct _ _ g = A
                  have h1 : A.tmps[1]?.getD undef = .pointer (some ⟨E, 0, none⟩) := by rw [← hA]; exact mkAct_out2 _ _ _ _ _ rfl rfl
                  refine step_val (v := .pointer (some ⟨E, 0, none⟩)) (w' := w') ?_ ⟨rfl, Ext.refl _ _⟩
                  simp [execOp, h1, Result.andThen, go_sem]
                case f6_7b =>
                  intro f v g w' hJ hfi hb hd
                  refine arm_u rfl ?_
                  have eg : g 33 = .bool true := value_u (hd ⟨4, .guard⟩ (by simp) rfl) rfl rfl
                  refine op_yes rfl rfl rfl rfl eg ?_
                  have e34 : g 34 = .pointer (some ⟨E, 0, none⟩) := value_u (hd ⟨5, .data⟩ (by simp) rfl) rfl rfl
                  generalize hA : mkAct _ _ g = A
                  have h34 : A.tmps[34]?.getD undef = .pointer (some ⟨E, 0, none⟩) := by rw [← hA, mkAct_in2 _ _ _ _ rfl rfl]; exact e34
                  have c := (hJ.1.cell (p := ⟨E, 0, none⟩) hEE a0)
                  refine step_val (v := .int .i64 4) (w' := w') ?_ ⟨rfl, Ext.refl _ _⟩
                  simp [execOp, h34, c, Result.andThen, go_sem]
                case f7_7b =>
                  intro f v g w' hJ hfi hb hd
                  refine arm_u rfl ?_
                  have eg : g 33 = .bool true := value_u (hd ⟨4, .guard⟩ (by simp) rfl) rfl rfl
                  refine op_yes rfl rfl rfl rfl eg ?_
                  have e35 : g 35 = .int .i64 4 := value_u (hd ⟨6, .data⟩ (by simp) rfl) rfl rfl
                  generalize hA : mkAct _ _ g = A
                  have h35 : A.tmps[35]?.getD undef = .int .i64 4 := by rw [← hA, mkAct_in2 _ _ _ _ rfl rfl]; exact e35
                  refine step_val (v := .bool true) (w' := w') ?_ ⟨rfl, Ext.refl _ _⟩
                  simp [execOp, h35, Result.andThen, go_sem]
                case f8_7b =>
                  intro f v g w' hJ hfi hb hd
                  refine arm_u rfl ?_
                  refine op_run rfl ?_
                  have e33 : g 33 = .bool true := value_u (hd ⟨4, .data⟩ (by simp) rfl) rfl rfl
                  have e36 : g 36 = .bool true := value_u (hd ⟨7, .data⟩ (by simp) rfl) rfl rfl
                  generalize hA : mkAct _ _ g = A
                  have h33 : A.tmps[33]?.getD undef = .bool true := by rw [← hA, mkAct_in2 _ _ _ _ rfl rfl]; exact e33
                  have h36 : A.tmps[36]?.getD undef = .bool true := by rw [← hA, mkAct_in2 _ _ _ _ rfl rfl]; exact e36
                  refine step_val (v := .bool true) (w' := w') ?_ ⟨rfl, Ext.refl _ _⟩
                  simp [execOp, h33, h36, Result.andThen, go_sem]
                case f9_7b =>
                  intro f v g w' hJ hfi hb hd
                  refine arm_u rfl ?_
                  refine op_run rfl ?_
                  have e37 : g 37 = .bool true := value_u (hd ⟨8, .data⟩ (by simp) rfl) rfl rfl
                  generalize hA : mkAct _ _ g = A
                  have h37 : A.tmps[37]?.getD undef = .bool true := by rw [← hA, mkAct_in2 _ _ _ _ rfl rfl]; exact e37
                  refine step_val (v := .bool true) (w' := w') ?_ ⟨rfl, Ext.refl _ _⟩
                  simp [execOp, h37, Result.andThen, go_sem]
                case f10_7b =>
                  intro f v g w' hJ hfi hb hd
                  refine arm_u rfl ?_
                  have eg : g 38 = .bool true := value_u (hd ⟨9, .guard⟩ (by simp) rfl) rfl rfl
                  refine op_yes rfl rfl rfl rfl eg ?_
                  generalize hA : mkAct _ _ g = A
                  have h5 : A.tmps[5]?.getD undef = .pointer (some ⟨L, 0, none⟩) := by rw [← hA]; exact mkAct_out2 _ _ _ _ _ rfl rfl
                  obtain ⟨d0, d1, d2, d3⟩ := (And.intro ((hJ.1.cell (p := ⟨L, 0, none⟩) hLE c0)) (And.intro ((hJ.1.cell (p := ⟨L, 1, none⟩) hLE c1)) (And.intro ((hJ.1.cell (p := ⟨L, 2, none⟩) hLE c2)) ((hJ.1.cell (p := ⟨L, 3, none⟩) hLE c3)))))
                  refine step_val (v := .agg #[.int .i64 ix, .int .i64 tm, .int .i64 B, .slice va k vc]) (w' := w') ?_ ⟨rfl, Ext.refl _ _⟩
                  simp [execOp, h5, d0, d1, d2, d3, Result.andThen, go_sem]
                case f11_7b =>
                  intro f v g w' hJ hfi hb hd
                  refine arm_u rfl ?_
                  have eg : g 38 = .bool true := value_u (hd ⟨9, .guard⟩ (by simp) rfl) rfl rfl
                  refine op_yes rfl rfl rfl rfl eg ?_
                  have e39 : g 39 = .agg #[.int .i64 ix, .int .i64 tm, .int .i64 B, .slice va k vc] := value_u (hd ⟨10, .data⟩ (by simp) rfl) rfl rfl
                  generalize hA : mkAct _ _ g = A
                  have h39 : A.tmps[39]?.getD undef = .agg #[.int .i64 ix, .int .i64 tm, .int .i64 B, .slice va k vc] := by rw [← hA, mkAct_in2 _ _ _ _ rfl rfl]; exact e39
                  refine float_u (fun K hK => ?_)
                  go_simp
                  refine (cg w' hJ.1).mono ?_
                  rintro e w2 ⟨rfl, hx2⟩
                  exact hK w2 hx2
                case f12_7b =>
                  intro f v g w' hJ hfi hb hd
                  refine arm_u rfl ?_
                  refine op_run rfl ?_
                  have e38 : g 38 = .bool true := value_u (hd ⟨9, .data⟩ (by simp) rfl) rfl rfl
                  have e40 : g 40 = .bool false := value_u (hd ⟨11, .data⟩ (by simp) rfl) rfl rfl
                  generalize hA : mkAct _ _ g = A
                  have h38 : A.tmps[38]?.getD undef = .bool true := by rw [← hA, mkAct_in2 _ _ _ _ rfl rfl]; exact e38
                  have h40 : A.tmps[40]?.getD undef = .bool false := by rw [← hA, mkAct_in2 _ _ _ _ rfl rfl]; exact e40
                  refine step_val (v := .bool false) (w' := w') ?_ ⟨rfl, Ext.refl _ _⟩
                  simp [execOp, h38, h40, Result.andThen, go_sem]
                case f13_7b =>
                  intro f v g w' hJ hfi hb hd
                  refine arms_u rfl ?_
                  refine op_run rfl ?_
                  have e29 : g 29 = .agg #[.int .i64 ix, .int .i64 tm, .int .i64 B, .slice va k vc] := value_u (hd ⟨0, .data⟩ (by simp) rfl) rfl rfl
                  generalize hA : mkAct _ _ g = A
                  have h2 : A.tmps[2]?.getD undef = .pointer (some ⟨(E + 1), 0, none⟩) := by rw [← hA]; exact mkAct_out2 _ _ _ _ _ rfl rfl
                  have h29 : A.tmps[29]?.getD undef = .agg #[.int .i64 ix, .int .i64 tm, .int .i64 B, .slice va k vc] := by rw [← hA, mkAct_in2 _ _ _ _ rfl rfl]; exact e29
                  have hB0 := hJ.2.1 hfi
                  have c0 : w'.cell? ⟨(E + 1), 0, none⟩ = some (.int .i64 0) := Blk.c hB0 0
                  have c1 : w'.cell? ⟨(E + 1), 1, none⟩ = some (.int .i64 0) := Blk.c hB0 1
                  have c2 : w'.cell? ⟨(E + 1), 2, none⟩ = some (.int .i64 0) := Blk.c hB0 2
                  have c3 : w'.cell? ⟨(E + 1), 3, none⟩ = some (.slice none 0 0) := Blk.c hB0 3
                  have cf := fun j => Blk.f hB0 j
                  have cl := Blk.lt hB0
                  have HX9 : Ext [(E + 1)] w' ((((w'.setCell ⟨(E + 1), 0, none⟩ (.int .i64 ix)).setCell ⟨(E + 1), 1, none⟩ (.int .i64 tm)).setCell ⟨(E + 1), 2, none⟩ (.int .i64 B)).setCell ⟨(E + 1), 3, none⟩ (.slice va k vc)) := (((((Ext.refl [(E + 1)] w').setCell (p := ⟨(E + 1), 0, none⟩) (.inl (List.mem_singleton.2 rfl)) (.int .i64 ix)).setCell (p := ⟨(E + 1), 1, none⟩) (.inl (List.mem_singleton.2 rfl)) (.int .i64 tm)).setCell (p := ⟨(E + 1), 2, none⟩) (.inl (List.mem_singleton.2 rfl)) (.int .i64 B)).setCell (p := ⟨(E + 1), 3, none⟩) (.inl (List.mem_singleton.2 rfl)) (.slice va k vc))
                  have HB9 := (Blk.set (Blk.set (Blk.set (Blk.set hB0 0 (.int .i64 ix)) 1 (.int .i64 tm)) 2 (.int .i64 B)) 3 (.slice va k vc))
                  refine step_skip (w' := ((((w'.setCell ⟨(E + 1), 0, none⟩ (.int .i64 ix)).setCell ⟨(E + 1), 1, none⟩ (.int .i64 tm)).setCell ⟨(E + 1), 2, none⟩ (.int .i64 B)).setCell ⟨(E + 1), 3, none⟩ (.slice va k vc))) ?_ ⟨undef, rfl, hJ.1.trans HX9 (fun z hz => .inl hz), fun h => (by cases h), fun _ => HB9⟩
                  simp [execOp, h2, h29, c0, c1, c2, c3, cf, cl, Result.andThen, go_sem]
                case f14_7b =>
                  intro f v g w' hJ hfi hb hd
                  refine arm_u rfl ?_
                  refine op_run rfl ?_
                  have e41 : g 41 = .bool false := value_u (hd ⟨12, .data⟩ (by simp) rfl) rfl rfl
                  generalize hA : mkAct _ _ g = A
                  have h41 : A.tmps[41]?.getD undef = .bool false := by rw [← hA, mkAct_in2 _ _ _ _ rfl rfl]; exact e41
                  refine step_val (v := .bool false) (w' := w') ?_ ⟨rfl, Ext.refl _ _⟩
                  simp [execOp, h41, Result.andThen, go_sem]
              intro f v g wn hJ hk
              have e3 : g 3 = .bool false := value_u (hk 14 (by decide)) rfl rfl
              have hfs13 : f 13 = true := ((hk 13 (by decide)).2 rfl).1
              obtain ⟨hx9, -, j2⟩ := hJ
              have hb9 := j2 hfs13
              have d0 := Blk.c hb9 0
              have d1 := Blk.c hb9 1
              have d2 := Blk.c hb9 2
              have d3 := Blk.c hb9 3
              simp only [List.getElem?_cons_zero, List.getElem?_cons_succ] at d0 d1 d2 d3
              clear hk
              unfold mkAct; simp only [List.zipIdx_cons, List.zipIdx_nil, List.map_cons, List.map_nil, Nat.zero_add, Nat.reduceAdd, List.contains_cons, List.contains_nil, Nat.reduceBEq, Bool.or_false, Bool.or_true, ↓reduceIte, Bool.false_eq_true]
              rw [e3]
              go_wp2_with fail
              refine bodyPost_ret (v := .tuple #[lsv ⟨ix, tm, B, st.1⟩ (.slice va k vc), .bool false]) (by simp [results, Try.results37, lsv, go_sem, d0, d1, d2, d3]) rfl ?_
              refine ⟨.slice va k vc, by rw [HN1.out, HOK9.out], ?_, HX9.out.trans hx9 (by simp; omega), fun z hz => by have := HV9.out z hz; omega⟩
              rw [HN1.out]
              simp only
              rw [HF9]
              exact HO9.out.keep hx9 (fun z hz hm => by have h8 := HV9.out z hz; simp at hm; omega)
          · have HOK : Hid (lsOk ⟨kd, ix, tm, dd⟩ = false) := Hid.of (by
              cases hlk : lsOk ⟨kd, ix, tm, dd⟩ with
              | false => rfl
              | true => exact absurd (HN2.out.1 hlk).2.1 hk4)
            have hk5 : (kd == 4) = false := by simp [hk4]
            go_upto_region 7 with fail
            refine wp_region_u [29, 30, 31, 32, 33, 34, 35, 36, 37, 38, 39, 40, 41, 3] [13] (fun n => match n with | 0 => .agg #[.int .i64 ix, .int .i64 tm, .int .i64 B, .slice va k vc] | 1 => .pointer (some ⟨(E + 2), 0, none⟩) | 2 => .int .i64 0 | 3 => .bool true | 4 => .bool true | 5 => .pointer (some ⟨E, 0, none⟩) | 6 => .int .i64 kd | 7 => .bool false | 8 => .bool false | 9 => .bool false | 10 => undef | 11 => undef | 12 => .bool false | 14 => .bool false | _ => undef) (fun f v w => Ext [E + 1] wr w ∧ (f 13 = false → Blk w (E + 1) 42 [.int .i64 0, .int .i64 0, .int .i64 0, .slice none 0 0]) ∧ (f 13 = true → Blk w (E + 1) 42 [.int .i64 ix, .int .i64 tm, .int .i64 B, .slice va k vc])) (by kernel_rfl) (by kernel_rfl) ?hst0_7c ?h00_7c ?hst_7c ?hend_7c
            case hst0_7c =>
              rintro f v w w' ⟨hx, j1, j2⟩ hx2
              exact ⟨hx.then0 hx2, fun h => Blk.keep (j1 h) hx2 List.not_mem_nil, fun h => Blk.keep (j2 h) hx2 List.not_mem_nil⟩
            case h00_7c =>
              exact ⟨Ext.refl _ _, fun _ => HB9.out, fun h => (by cases h)⟩
            case hst_7c =>
              refine ⟨?f0_7c, ?f1_7c, ?f2_7c, ?f3_7c, ?f4_7c, ?f5_7c, ?f6_7c, ?f7_7c, ?f8_7c, ?f9_7c, ?f10_7c, ?f11_7c, ?f12_7c, ?f13_7c, ?f14_7c, trivial⟩
              case f0_7c =>
                intro f v g w' hJ hfi hb hd
                refine arm_u rfl ?_
                refine op_run rfl ?_
                generalize hA : mkAct _ _ g = A
                have h5 : A.tmps[5]?.getD undef = .pointer (some ⟨L, 0, none⟩) := by rw [← hA]; exact mkAct_out2 _ _ _ _ _ rfl rfl
                obtain ⟨d0, d1, d2, d3⟩ := (And.intro ((hJ.1.cell (p := ⟨L, 0, none⟩) hLE c0)) (And.intro ((hJ.1.cell (p := ⟨L, 1, none⟩) hLE c1)) (And.intro ((hJ.1.cell (p := ⟨L, 2, none⟩) hLE c2)) ((hJ.1.cell (p := ⟨L, 3, none⟩) hLE c3)))))
                refine step_val (v := .agg #[.int .i64 ix, .int .i64 tm, .int .i64 B, .slice va k vc]) (w' := w') ?_ ⟨rfl, Ext.refl _ _⟩
                simp [execOp, h5, d0, d1, d2, d3, Result.andThen, go_sem]
              case f1_7c =>
                intro f v g w' hJ hfi hb hd
                refine arm_u rfl ?_
                refine op_run rfl ?_
                generalize hA : mkAct _ _ g = A
                have h4 : A.tmps[4]?.getD undef = .pointer (some ⟨(E + 2), 0, none⟩) := by rw [← hA]; exact mkAct_out2 _ _ _ _ _ rfl rfl
                refine step_val (v := .pointer (some ⟨(E + 2), 0, none⟩)) (w' := w') ?_ ⟨rfl, Ext.refl _ _⟩
                simp [execOp, h4, Result.andThen, go_sem]
              case f2_7c =>
                intro f v g w' hJ hfi hb hd
                refine arm_u rfl ?_
                refine op_run rfl ?_
                have e30 : g 30 = .pointer (some ⟨(E + 2), 0, none⟩) := value_u (hd ⟨1, .data⟩ (by simp) rfl) rfl rfl
                generalize hA : mkAct _ _ g = A
                have h30 : A.tmps[30]?.getD undef = .pointer (some ⟨(E + 2), 0, none⟩) := by rw [← hA, mkAct_in2 _ _ _ _ rfl rfl]; exact e30
                refine float_u (fun K hK => ?_)
                go_simp
                refine (cd w' (IsR.keep HR9.out hJ.1 (by simp))).mono ?_
                rintro e w2 ⟨rfl, rfl⟩
                exact hK w' (Ext.refl _ _)
              case f3_7c =>
                intro f v g w' hJ hfi hb hd
                refine arm_u rfl ?_
                refine op_run rfl ?_
                have e31 : g 31 = .int .i64 0 := value_u (hd ⟨2, .data⟩ (by simp) rfl) rfl rfl
                generalize hA : mkAct _ _ g = A
                have h31 : A.tmps[31]?.getD undef = .int .i64 0 := by rw [← hA, mkAct_in2 _ _ _ _ rfl rfl]; exact e31
                refine step_val (v := .bool true) (w' := w') ?_ ⟨rfl, Ext.refl _ _⟩
                simp [execOp, h31, Result.andThen, go_sem]
              case f4_7c =>
                intro f v g w' hJ hfi hb hd
                refine arm_u rfl ?_
                refine op_run rfl ?_
                have e32 : g 32 = .bool true := value_u (hd ⟨3, .data⟩ (by simp) rfl) rfl rfl
                generalize hA : mkAct _ _ g = A
                have h32 : A.tmps[32]?.getD undef = .bool true := by rw [← hA, mkAct_in2 _ _ _ _ rfl rfl]; exact e32
                refine step_val (v := .bool true) (w' := w') ?_ ⟨rfl, Ext.refl _ _⟩
                simp [execOp, h32, Result.andThen, go_sem]
              case f5_7c =>
                intro f v g w' hJ hfi hb hd
                refine arm_u rfl ?_
                have eg : g 33 = .bool true := value_u (hd ⟨4, .guard⟩ (by simp) rfl) rfl rfl
                refine op_yes rfl rfl rfl rfl eg ?_
                generalize hA : mkAct _ _ g = A
                have h1 : A.tmps[1]?.getD undef = .pointer (some ⟨E, 0, none⟩) := by rw [← hA]; exact mkAct_out2 _ _ _ _ _ rfl rfl
                refine step_val (v := .pointer (some ⟨E, 0, none⟩)) (w' := w') ?_ ⟨rfl, Ext.refl _ _⟩
                simp [execOp, h1, Result.andThen, go_sem]
              case f6_7c =>
                intro f v g w' hJ hfi hb hd
                refine arm_u rfl ?_
                have eg : g 33 = .bool true := value_u (hd ⟨4, .guard⟩ (by simp) rfl) rfl rfl
                refine op_yes rfl rfl rfl rfl eg ?_
                have e34 : g 34 = .pointer (some ⟨E, 0, none⟩) := value_u (hd ⟨5, .data⟩ (by simp) rfl) rfl rfl
                generalize hA : mkAct _ _ g = A
                have h34 : A.tmps[34]?.getD undef = .pointer (some ⟨E, 0, none⟩) := by rw [← hA, mkAct_in2 _ _ _ _ rfl rfl]; exact e34
                have c := (hJ.1.cell (p := ⟨E, 0, none⟩) hEE a0)
                refine step_val (v := .int .i64 kd) (w' := w') ?_ ⟨rfl, Ext.refl _ _⟩
                simp [execOp, h34, c, Result.andThen, go_sem]
              case f7_7c =>
                intro f v g w' hJ hfi hb hd
                refine arm_u rfl ?_
                have eg : g 33 = .bool true := value_u (hd ⟨4, .guard⟩ (by simp) rfl) rfl rfl
                refine op_yes rfl rfl rfl rfl eg ?_
                have e35 : g 35 = .int .i64 kd := value_u (hd ⟨6, .data⟩ (by simp) rfl) rfl rfl
                generalize hA : mkAct _ _ g = A
                have h35 : A.tmps[35]?.getD undef = .int .i64 kd := by rw [← hA, mkAct_in2 _ _ _ _ rfl rfl]; exact e35
                refine step_val (v := .bool false) (w' := w') ?_ ⟨rfl, Ext.refl _ _⟩
                simp [execOp, hk5, h35, Result.andThen, go_sem]
              case f8_7c =>
                intro f v g w' hJ hfi hb hd
                refine arm_u rfl ?_
                refine op_run rfl ?_
                have e33 : g 33 = .bool true := value_u (hd ⟨4, .data⟩ (by simp) rfl) rfl rfl
                have e36 : g 36 = .bool false := value_u (hd ⟨7, .data⟩ (by simp) rfl) rfl rfl
                generalize hA : mkAct _ _ g = A
                have h33 : A.tmps[33]?.getD undef = .bool true := by rw [← hA, mkAct_in2 _ _ _ _ rfl rfl]; exact e33
                have h36 : A.tmps[36]?.getD undef = .bool false := by rw [← hA, mkAct_in2 _ _ _ _ rfl rfl]; exact e36
                refine step_val (v := .bool false) (w' := w') ?_ ⟨rfl, Ext.refl _ _⟩
                simp [execOp, h33, h36, Result.andThen, go_sem]
              case f9_7c =>
                intro f v g w' hJ hfi hb hd
                refine arm_u rfl ?_
                refine op_run rfl ?_
                have e37 : g 37 = .bool false := value_u (hd ⟨8, .data⟩ (by simp) rfl) rfl rfl
                generalize hA : mkAct _ _ g = A
                have h37 : A.tmps[37]?.getD undef = .bool false := by rw [← hA, mkAct_in2 _ _ _ _ rfl rfl]; exact e37
                refine step_val (v := .bool false) (w' := w') ?_ ⟨rfl, Ext.refl _ _⟩
                simp [execOp, h37, Result.andThen, go_sem]
              case f10_7c =>
                intro f v g w' hJ hfi hb hd
                refine arm_u rfl ?_
                have eg : g 38 = .bool false := value_u (hd ⟨9, .guard⟩ (by simp) rfl) rfl rfl
                exact op_no rfl rfl rfl rfl false eg (by decide) ⟨rfl, Ext.refl _ _⟩
              case f11_7c =>
                intro f v g w' hJ hfi hb hd
                refine arm_u rfl ?_
                have eg : g 38 = .bool false := value_u (hd ⟨9, .guard⟩ (by simp) rfl) rfl rfl
                exact op_no rfl rfl rfl rfl false eg (by decide) ⟨rfl, Ext.refl _ _⟩
              case f12_7c =>
                intro f v g w' hJ hfi hb hd
                refine arm_u rfl ?_
                refine op_run rfl ?_
                have e38 : g 38 = .bool false := value_u (hd ⟨9, .data⟩ (by simp) rfl) rfl rfl
                have e40 : g 40 = undef := value_u (hd ⟨11, .data⟩ (by simp) rfl) rfl rfl
                generalize hA : mkAct _ _ g = A
                have h38 : A.tmps[38]?.getD undef = .bool false := by rw [← hA, mkAct_in2 _ _ _ _ rfl rfl]; exact e38
                have h40 : A.tmps[40]?.getD undef = undef := by rw [← hA, mkAct_in2 _ _ _ _ rfl rfl]; exact e40
                refine step_val (v := .bool false) (w' := w') ?_ ⟨rfl, Ext.refl _ _⟩
                simp [execOp, h38, h40, Result.andThen, go_sem]
              case f13_7c =>
                intro f v g w' hJ hfi hb hd
                refine arms_u rfl ?_
                refine op_run rfl ?_
                have e29 : g 29 = .agg #[.int .i64 ix, .int .i64 tm, .int .i64 B, .slice va k vc] := value_u (hd ⟨0, .data⟩ (by simp) rfl) rfl rfl
                generalize hA : mkAct _ _ g = A
                have h2 : A.tmps[2]?.getD undef = .pointer (some ⟨(E + 1), 0, none⟩) := by rw [← hA]; exact mkAct_out2 _ _ _ _ _ rfl rfl
                have h29 : A.tmps[29]?.getD undef = .agg #[.int .i64 ix, .int .i64 tm, .int .i64 B, .slice va k vc] := by rw [← hA, mkAct_in2 _ _ _ _ rfl rfl]; exact e29
                have hB0 := hJ.2.1 hfi
                have c0 : w'.cell? ⟨(E + 1), 0, none⟩ = some (.int .i64 0) := Blk.c hB0 0
                have c1 : w'.cell? ⟨(E + 1), 1, none⟩ = some (.int .i64 0) := Blk.c hB0 1
                have c2 : w'.cell? ⟨(E + 1), 2, none⟩ = some (.int .i64 0) := Blk.c hB0 2
                have c3 : w'.cell? ⟨(E + 1), 3, none⟩ = some (.slice none 0 0) := Blk.c hB0 3
                have cf := fun j => Blk.f hB0 j
                have cl := Blk.lt hB0
                have HX9 : Ext [(E + 1)] w' ((((w'.setCell ⟨(E + 1), 0, none⟩ (.int .i64 ix)).setCell ⟨(E + 1), 1, none⟩ (.int .i64 tm)).setCell ⟨(E + 1), 2, none⟩ (.int .i64 B)).setCell ⟨(E + 1), 3, none⟩ (.slice va k vc)) := (((((Ext.refl [(E + 1)] w').setCell (p := ⟨(E + 1), 0, none⟩) (.inl (List.mem_singleton.2 rfl)) (.int .i64 ix)).setCell (p := ⟨(E + 1), 1, none⟩) (.inl (List.mem_singleton.2 rfl)) (.int .i64 tm)).setCell (p := ⟨(E + 1), 2, none⟩) (.inl (List.mem_singleton.2 rfl)) (.int .i64 B)).setCell (p := ⟨(E + 1), 3, none⟩) (.inl (List.mem_singleton.2 rfl)) (.slice va k vc))
                have HB9 := (Blk.set (Blk.set (Blk.set (Blk.set hB0 0 (.int .i64 ix)) 1 (.int .i64 tm)) 2 (.int .i64 B)) 3 (.slice va k vc))
                refine step_skip (w' := ((((w'.setCell ⟨(E + 1), 0, none⟩ (.int .i64 ix)).setCell ⟨(E + 1), 1, none⟩ (.int .i64 tm)).setCell ⟨(E + 1), 2, none⟩ (.int .i64 B)).setCell ⟨(E + 1), 3, none⟩ (.slice va k vc))) ?_ ⟨undef, rfl, hJ.1.trans HX9 (fun z hz => .inl hz), fun h => (by cases h), fun _ => HB9⟩
                simp [execOp, h2, h29, c0, c1, c2, c3, cf, cl, Result.andThen, go_sem]
              case f14_7c =>
                intro f v g w' hJ hfi hb hd
                refine arm_u rfl ?_
                refine op_run rfl ?_
                have e41 : g 41 = .bool false := value_u (hd ⟨12, .data⟩ (by simp) rfl) rfl rfl
                generalize hA : mkAct _ _ g = A
                have h41 : A.tmps[41]?.getD undef = .bool false := by rw [← hA, mkAct_in2 _ _ _ _ rfl rfl]; exact e41
                refine step_val (v := .bool false) (w' := w') ?_ ⟨rfl, Ext.refl _ _⟩
                simp [execOp, h41, Result.andThen, go_sem]
            intro f v g wn hJ hk
            have e3 : g 3 = .bool false := value_u (hk 14 (by decide)) rfl rfl
            have hfs13 : f 13 = true := ((hk 13 (by decide)).2 rfl).1
            obtain ⟨hx9, -, j2⟩ := hJ
            have hb9 := j2 hfs13
            have d0 := Blk.c hb9 0
            have d1 := Blk.c hb9 1
            have d2 := Blk.c hb9 2
            have d3 := Blk.c hb9 3
            simp only [List.getElem?_cons_zero, List.getElem?_cons_succ] at d0 d1 d2 d3
            clear hk
            unfold mkAct; simp only [List.zipIdx_cons, List.zipIdx_nil, List.map_cons, List.map_nil, Nat.zero_add, Nat.reduceAdd, List.contains_cons, List.contains_nil, Nat.reduceBEq, Bool.or_false, Bool.or_true, ↓reduceIte, Bool.false_eq_true]
            rw [e3]
            go_wp2_with fail
            refine bodyPost_ret (v := .tuple #[lsv ⟨ix, tm, B, st.1⟩ (.slice va k vc), .bool false]) (by simp [results, Try.results37, lsv, go_sem, d0, d1, d2, d3]) rfl ?_
            refine ⟨.slice va k vc, by rw [HN1.out, HOK.out], ?_, HX9.out.trans hx9 (by simp; omega), fun z hz => by have := HV9.out z hz; omega⟩
            rw [HN1.out]
            simp only
            rw [HF9]
            exact HO9.out.keep hx9 (fun z hz hm => by have h8 := HV9.out z hz; simp at hm; omega)
        · rw [hd] at cd
          have HOK : Hid (lsOk ⟨kd, ix, tm, dd⟩ = false) := Hid.of (by
            cases hlk : lsOk ⟨kd, ix, tm, dd⟩ with
            | false => rfl
            | true => have := (HN2.out.1 hlk).1; rw [hd] at this; cases this)
          go_upto_region 7 with fail
          refine wp_region_u [29, 30, 31, 32, 33, 34, 35, 36, 37, 38, 39, 40, 41, 3] [13] (fun n => match n with | 0 => .agg #[.int .i64 ix, .int .i64 tm, .int .i64 B, .slice va k vc] | 1 => .pointer (some ⟨(E + 2), 0, none⟩) | 2 => .int .i64 2 | 3 => .bool false | 4 => .bool false | 5 => undef | 6 => undef | 7 => undef | 8 => .bool false | 9 => .bool false | 10 => undef | 11 => undef | 12 => .bool false | 14 => .bool false | _ => undef) (fun f v w => Ext [E + 1] wr w ∧ (f 13 = false → Blk w (E + 1) 42 [.int .i64 0, .int .i64 0, .int .i64 0, .slice none 0 0]) ∧ (f 13 = true → Blk w (E + 1) 42 [.int .i64 ix, .int .i64 tm, .int .i64 B, .slice va k vc])) (by kernel_rfl) (by kernel_rfl) ?hst0_7d ?h00_7d ?hst_7d ?hend_7d
          case hst0_7d =>
            rintro f v w w' ⟨hx, j1, j2⟩ hx2
            exact ⟨hx.then0 hx2, fun h => Blk.keep (j1 h) hx2 List.not_mem_nil, fun h => Blk.keep (j2 h) hx2 List.not_mem_nil⟩
          case h00_7d =>
            exact ⟨Ext.refl _ _, fun _ => HB9.out, fun h => (by cases h)⟩
          case hst_7d =>
            refine ⟨?f0_7d, ?f1_7d, ?f2_7d, ?f3_7d, ?f4_7d, ?f5_7d, ?f6_7d, ?f7_7d, ?f8_7d, ?f9_7d, ?f10_7d, ?f11_7d, ?f12_7d, ?f13_7d, ?f14_7d, trivial⟩
            case f0_7d =>
              intro f v g w' hJ hfi hb hd
              refine arm_u rfl ?_
              refine op_run rfl ?_
              generalize hA : mkAct _ _ g = A
              have h5 : A.tmps[5]?.getD undef = .pointer (some ⟨L, 0, none⟩) := by rw [← hA]; exact mkAct_out2 _ _ _ _ _ rfl rfl
              obtain ⟨d0, d1, d2, d3⟩ := (And.intro ((hJ.1.cell (p := ⟨L, 0, none⟩) hLE c0)) (And.intro ((hJ.1.cell (p := ⟨L, 1, none⟩) hLE c1)) (And.intro ((hJ.1.cell (p := ⟨L, 2, none⟩) hLE c2)) ((hJ.1.cell (p := ⟨L, 3, none⟩) hLE c3)))))
              refine step_val (v := .agg #[.int .i64 ix, .int .i64 tm, .int .i64 B, .slice va k vc]) (w' := w') ?_ ⟨rfl, Ext.refl _ _⟩
              simp [execOp, h5, d0, d1, d2, d3, Result.andThen, go_sem]
            case f1_7d =>
              intro f v g w' hJ hfi hb hd
              refine arm_u rfl ?_
              refine op_run rfl ?_
              generalize hA : mkAct _ _ g = A
              have h4 : A.tmps[4]?.getD undef = .pointer (some ⟨(E + 2), 0, none⟩) := by rw [← hA]; exact mkAct_out2 _ _ _ _ _ rfl rfl
              refine step_val (v := .pointer (some ⟨(E + 2), 0, none⟩)) (w' := w') ?_ ⟨rfl, Ext.refl _ _⟩
              simp [execOp, h4, Result.andThen, go_sem]
            case f2_7d =>
              intro f v g w' hJ hfi hb hd
              refine arm_u rfl ?_
              refine op_run rfl ?_
              have e30 : g 30 = .pointer (some ⟨(E + 2), 0, none⟩) := value_u (hd ⟨1, .data⟩ (by simp) rfl) rfl rfl
              generalize hA : mkAct _ _ g = A
              have h30 : A.tmps[30]?.getD undef = .pointer (some ⟨(E + 2), 0, none⟩) := by rw [← hA, mkAct_in2 _ _ _ _ rfl rfl]; exact e30
              refine float_u (fun K hK => ?_)
              go_simp
              refine (cd w' (IsR.keep HR9.out hJ.1 (by simp))).mono ?_
              rintro e w2 ⟨rfl, rfl⟩
              exact hK w' (Ext.refl _ _)
            case f3_7d =>
              intro f v g w' hJ hfi hb hd
              refine arm_u rfl ?_
              refine op_run rfl ?_
              have e31 : g 31 = .int .i64 2 := value_u (hd ⟨2, .data⟩ (by simp) rfl) rfl rfl
              generalize hA : mkAct _ _ g = A
              have h31 : A.tmps[31]?.getD undef = .int .i64 2 := by rw [← hA, mkAct_in2 _ _ _ _ rfl rfl]; exact e31
              refine step_val (v := .bool false) (w' := w') ?_ ⟨rfl, Ext.refl _ _⟩
              simp [execOp, h31, Result.andThen, go_sem]
            case f4_7d =>
              intro f v g w' hJ hfi hb hd
              refine arm_u rfl ?_
              refine op_run rfl ?_
              have e32 : g 32 = .bool false := value_u (hd ⟨3, .data⟩ (by simp) rfl) rfl rfl
              generalize hA : mkAct _ _ g = A
              have h32 : A.tmps[32]?.getD undef = .bool false := by rw [← hA, mkAct_in2 _ _ _ _ rfl rfl]; exact e32
              refine step_val (v := .bool false) (w' := w') ?_ ⟨rfl, Ext.refl _ _⟩
              simp [execOp, h32, Result.andThen, go_sem]
            case f5_7d =>
              intro f v g w' hJ hfi hb hd
              refine arm_u rfl ?_
              have eg : g 33 = .bool false := value_u (hd ⟨4, .guard⟩ (by simp) rfl) rfl rfl
              exact op_no rfl rfl rfl rfl false eg (by decide) ⟨rfl, Ext.refl _ _⟩
            case f6_7d =>
              intro f v g w' hJ hfi hb hd
              refine arm_u rfl ?_
              have eg : g 33 = .bool false := value_u (hd ⟨4, .guard⟩ (by simp) rfl) rfl rfl
              exact op_no rfl rfl rfl rfl false eg (by decide) ⟨rfl, Ext.refl _ _⟩
            case f7_7d =>
              intro f v g w' hJ hfi hb hd
              refine arm_u rfl ?_
              have eg : g 33 = .bool false := value_u (hd ⟨4, .guard⟩ (by simp) rfl) rfl rfl
              exact op_no rfl rfl rfl rfl false eg (by decide) ⟨rfl, Ext.refl _ _⟩
            case f8_7d =>
              intro f v g w' hJ hfi hb hd
              refine arm_u rfl ?_
              refine op_run rfl ?_
              have e33 : g 33 = .bool false := value_u (hd ⟨4, .data⟩ (by simp) rfl) rfl rfl
              have e36 : g 36 = undef := value_u (hd ⟨7, .data⟩ (by simp) rfl) rfl rfl
              generalize hA : mkAct _ _ g = A
              have h33 : A.tmps[33]?.getD undef = .bool false := by rw [← hA, mkAct_in2 _ _ _ _ rfl rfl]; exact e33
              have h36 : A.tmps[36]?.getD undef = undef := by rw [← hA, mkAct_in2 _ _ _ _ rfl rfl]; exact e36
              refine step_val (v := .bool false) (w' := w') ?_ ⟨rfl, Ext.refl _ _⟩
              simp [execOp, h33, h36, Result.andThen, go_sem]
            case f9_7d =>
              intro f v g w' hJ hfi hb hd
              refine arm_u rfl ?_
              refine op_run rfl ?_
              have e37 : g 37 = .bool false := value_u (hd ⟨8, .data⟩ (by simp) rfl) rfl rfl
              generalize hA : mkAct _ _ g = A
              have h37 : A.tmps[37]?.getD undef = .bool false := by rw [← hA, mkAct_in2 _ _ _ _ rfl rfl]; exact e37
              refine step_val (v := .bool false) (w' := w') ?_ ⟨rfl, Ext.refl _ _⟩
              simp [execOp, h37, Result.andThen, go_sem]
            case f10_7d =>
              intro f v g w' hJ hfi hb hd
              refine arm_u rfl ?_
              have eg : g 38 = .bool false := value_u (hd ⟨9, .guard⟩ (by simp) rfl) rfl rfl
              exact op_no rfl rfl rfl rfl false eg (by decide) ⟨rfl, Ext.refl _ _⟩
            case f11_7d =>
              intro f v g w' hJ hfi hb hd
              refine arm_u rfl ?_
              have eg : g 38 = .bool false := value_u (hd ⟨9, .guard⟩ (by simp) rfl) rfl rfl
              exact op_no rfl rfl rfl rfl false eg (by decide) ⟨rfl, Ext.refl _ _⟩
            case f12_7d =>
              intro f v g w' hJ hfi hb hd
              refine arm_u rfl ?_
              refine op_run rfl ?_
              have e38 : g 38 = .bool false := value_u (hd ⟨9, .data⟩ (by simp) rfl) rfl rfl
              have e40 : g 40 = undef := value_u (hd ⟨11, .data⟩ (by simp) rfl) rfl rfl
              generalize hA : mkAct _ _ g = A
              have h38 : A.tmps[38]?.getD undef = .bool false := by rw [← hA, mkAct_in2 _ _ _ _ rfl rfl]; exact e38
              have h40 : A.tmps[40]?.getD undef = undef := by rw [← hA, mkAct_in2 _ _ _ _ rfl rfl]; exact e40
              refine step_val (v := .bool false) (w' := w') ?_ ⟨rfl, Ext.refl _ _⟩
              simp [execOp, h38, h40, Result.andThen, go_sem]
            case f13_7d =>
              intro f v g w' hJ hfi hb hd
              refine arms_u rfl ?_
              refine op_run rfl ?_
              have e29 : g 29 = .agg #[.int .i64 ix, .int .i64 tm, .int .i64 B, .slice va k vc] := value_u (hd ⟨0, .data⟩ (by simp) rfl) rfl rfl
              generalize hA : mkAct _ _ g = A
              have h2 : A.tmps[2]?.getD undef = .pointer (some ⟨(E + 1), 0, none⟩) := by rw [← hA]; exact mkAct_out2 _ _ _ _ _ rfl rfl
              have h29 : A.tmps[29]?.getD undef = .agg #[.int .i64 ix, .int .i64 tm, .int .i64 B, .slice va k vc] := by rw [← hA, mkAct_in2 _ _ _ _ rfl rfl]; exact e29
              have hB0 := hJ.2.1 hfi
              have c0 : w'.cell? ⟨(E + 1), 0, none⟩ = some (.int .i64 0) := Blk.c hB0 0
              have c1 : w'.cell? ⟨(E + 1), 1, none⟩ = some (.int .i64 0) := Blk.c hB0 1
              have c2 : w'.cell? ⟨(E + 1), 2, none⟩ = some (.int .i64 0) := Blk.c hB0 2
              have c3 : w'.cell? ⟨(E + 1), 3, none⟩ = some (.slice none 0 0) := Blk.c hB0 3
              have cf := fun j => Blk.f hB0 j
              have cl := Blk.lt hB0
              have HX9 : Ext [(E + 1)] w' ((((w'.setCell ⟨(E + 1), 0, none⟩ (.int .i64 ix)).setCell ⟨(E + 1), 1, none⟩ (.int .i64 tm)).setCell ⟨(E + 1), 2, none⟩ (.int .i64 B)).setCell ⟨(E + 1), 3, none⟩ (.slice va k vc)) := (((((Ext.refl [(E + 1)] w').setCell (p := ⟨(E + 1), 0, none⟩) (.inl (List.mem_singleton.2 rfl)) (.int .i64 ix)).setCell (p := ⟨(E + 1), 1, none⟩) (.inl (List.mem_singleton.2 rfl)) (.int .i64 tm)).setCell (p := ⟨(E + 1), 2, none⟩) (.inl (List.mem_singleton.2 rfl)) (.int .i64 B)).setCell (p := ⟨(E + 1), 3, none⟩) (.inl (List.mem_singleton.2 rfl)) (.slice va k vc))
              have HB9 := (Blk.set (Blk.set (Blk.set (Blk.set hB0 0 (.int .i64 ix)) 1 (.int .i64 tm)) 2 (.int .i64 B)) 3 (.slice va k vc))
              refine step_skip (w' := ((((w'.setCell ⟨(E + 1), 0, none⟩ (.int .i64 ix)).setCell ⟨(E + 1), 1, none⟩ (.int .i64 tm)).setCell ⟨(E + 1), 2, none⟩ (.int .i64 B)).setCell ⟨(E + 1), 3, none⟩ (.slice va k vc))) ?_ ⟨undef, rfl, hJ.1.trans HX9 (fun z hz => .inl hz), fun h => (by cases h), fun _ => HB9⟩
              simp [execOp, h2, h29, c0, c1, c2, c3, cf, cl, Result.andThen, go_sem]
            case f14_7d =>
              intro f v g w' hJ hfi hb hd
              refine arm_u rfl ?_
              refine op_run rfl ?_
              have e41 : g 41 = .bool false := value_u (hd ⟨12, .data⟩ (by simp) rfl) rfl rfl
              generalize hA : mkAct _ _ g = A
              have h41 : A.tmps[41]?.getD undef = .bool false := by rw [← hA, mkAct_in2 _ _ _ _ rfl rfl]; exact e41
              refine step_val (v := .bool false) (w' := w') ?_ ⟨rfl, Ext.refl _ _⟩
              simp [execOp, h41, Result.andThen, go_sem]
          intro f v g wn hJ hk
          have e3 : g 3 = .bool false := value_u (hk 14 (by decide)) rfl rfl
          have hfs13 : f 13 = true := ((hk 13 (by decide)).2 rfl).1
          obtain ⟨hx9, -, j2⟩ := hJ
          have hb9 := j2 hfs13
          have d0 := Blk.c hb9 0
          have d1 := Blk.c hb9 1
          have d2 := Blk.c hb9 2
          have d3 := Blk.c hb9 3
          simp only [List.getElem?_cons_zero, List.getElem?_cons_succ] at d0 d1 d2 d3
          clear hk
          unfold mkAct; simp only [List.zipIdx_cons, List.zipIdx_nil, List.map_cons, List.map_nil, Nat.zero_add, Nat.reduceAdd, List.contains_cons, List.contains_nil, Nat.reduceBEq, Bool.or_false, Bool.or_true, ↓reduceIte, Bool.false_eq_true]
          rw [e3]
          go_wp2_with fail
          refine bodyPost_ret (v := .tuple #[lsv ⟨ix, tm, B, st.1⟩ (.slice va k vc), .bool false]) (by simp [results, Try.results37, lsv, go_sem, d0, d1, d2, d3]) rfl ?_
          refine ⟨.slice va k vc, by rw [HN1.out, HOK.out], ?_, HX9.out.trans hx9 (by simp; omega), fun z hz => by have := HV9.out z hz; omega⟩
          rw [HN1.out]
          simp only
          rw [HF9]
          exact HO9.out.keep hx9 (fun z hz hm => by have h8 := HV9.out z hz; simp at hm; omega)
end Go.Proofs.Ytlnfigbcdmfmdaa
