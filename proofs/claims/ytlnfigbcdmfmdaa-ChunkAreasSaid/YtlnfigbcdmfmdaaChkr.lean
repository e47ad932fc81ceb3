/- A device cloned. (Printed by wip/gen_clone7.py.) -/
import Derived.Test.YtlnfigbcdmfmdaaChkq
namespace Go.Proofs.Ytlnfigbcdmfmdaa
open Go.RowKit
set_option linter.unusedVariables false
set_option linter.unusedSimpArgs false

/-- Changes handed back, in a row of the call's own. -/
def ChgNew (w : World) (l : List (Int × List UInt8)) (e : Ending) (w' : World) : Prop := ∃ v, e = .returned v ∧ Own w' 96 2 v l.length (chgs l) ∧ Ext [] w w' ∧ ∀ z ∈ vblocks v, w.heap.size ≤ z
set_option maxRecDepth 100000 in
set_option maxHeartbeats 1600000 in
theorem clonechg_any (sv : Value) (l : List (Int × List UInt8)) (w : World) (h : Rd w 2 sv l.length (chgs l)) (hl : l.length ≤ 1000000) :
    Calls Try.prog 48 #[sv] w (ChgNew w l) := by
  obtain ⟨a, cap, rfl⟩ := Rd.isSlice h
  have hlen := Rd.len h
  cases a with
  | none =>
    obtain ⟨_, a', cap', e, _, _, h4, _⟩ := id h
    simp only [Value.slice.injEq] at e
    obtain ⟨rfl, _, rfl⟩ := e
    obtain ⟨h0, h00⟩ := h4 rfl
    obtain rfl : l = [] := List.eq_nil_of_length_eq_zero h0
    subst h00
    have h0' : Own w 96 2 (.slice none 0 0) 0 [] := Own.nil _ _ _
    clear h hlen h4
    have hq := fun W : World => slice_eq_nil (P := Try.prog) W 79 _ none 0 0 Try.underlying79
    go_enter Try.func48, Try.ntmps48
    go_wp2
    clear hq
    go_wp2
    go_ret
    exact ⟨.slice none 0 0, rfl, h0', Ext.refl _ _, by simp [vblocks]⟩
  | some g =>
    obtain ⟨W, hW⟩ : ∃ W, W = w.alloc (.cells #[] 96) := ⟨_, rfl⟩
    have ho0 : Own W 96 2 (.slice (some ⟨w.heap.size, 0, none⟩) 0 0) 0 [] := by rw [hW]; exact Own.lit w #[] 96 2 0 rfl (by unfold maxLen; omega)
    have hxW : Ext [] w W := by rw [hW]; exact (Ext.refl _ _).alloc _
    have hsW : W.heap.size = w.heap.size + 1 := by rw [hW]; simp
    have hr : Rd W 2 (.slice (some g) l.length cap) l.length (chgs l) := h.keep hxW (by simp)
    have hq := fun W : World => slice_eq_nil (P := Try.prog) W 79 _ (some g) l.length cap Try.underlying79
    go_enter Try.func48, Try.ntmps48
    go_wp2_with (first | (rw [← hW]; (with_reducible refine wpl_append (d := some 7) 96 (.agg #[.int .i64 0, .string ByteArray.empty]) 2 24 el_change _ _ _ ?_ ho0 (.slice (some g) l.length cap) l.length (chgs l) ?_ hr (chgs_cells _) ?_ ?_ ?_)))
    all_goals try rfl
    · omega
    · unfold maxLen; omega
    · intro v' w' ho' hx' hv' _
      try rw [Nat.zero_add] at ho'
      try rw [List.nil_append] at ho'
      have hx2 : Ext [] w w' := by
        first
          | exact hxW.trans hx' (fun z hz => .inr (by simp [vblocks] at hz; omega))
          | (rw [hW] at hxW; exact hxW.trans hx' (fun z hz => .inr (by simp [vblocks] at hz; omega)))
      have hv2 : ∀ z ∈ vblocks v', w.heap.size ≤ z := by
        intro z hz
        rcases hv' with h | h
        · rw [h] at hz; simp [vblocks] at hz; omega
        · rw [h] at hz; simp at hz; omega
      clear hW hx' hv' hr h hlen ho0
      go_wp2
      go_ret
      exact ⟨v', rfl, ho', hx2, hv2⟩
/-- What the calls have made so far. -/
def CloneB (W : World) (C : Nat) (D : Dv) (f : Nat → Bool) (v : Nat → Value) (w : World) : Prop := Ext [C] W w ∧
  (f 4 = true → ∃ m, v 4 = .map (some m) ∧ MapV w m (str []) (fun k => str (D.safe k)) ∧ W.heap.size ≤ m ∧ m < w.heap.size) ∧
  (f 9 = true → f 4 = true ∧ ∃ m m', v 4 = .map (some m) ∧ v 9 = .map (some m') ∧ m < m' ∧ MapV w m' (.bool false) (fun k => .bool (D.lost k)) ∧ W.heap.size ≤ m' ∧ m' < w.heap.size) ∧
  (f 14 = true → f 9 = true ∧ ∃ m m', v 9 = .map (some m) ∧ v 14 = .map (some m') ∧ m < m' ∧ MapV w m' (.bool false) (fun k => .bool (D.hurt k)) ∧ W.heap.size ≤ m' ∧ m' < w.heap.size) ∧
  (f 19 = true → f 14 = true ∧ ∃ m a c, v 14 = .map (some m) ∧ v 19 = .slice a D.since.length c ∧ Own w 96 2 (.slice a D.since.length c) D.since.length (chgs D.since) ∧ W.heap.size ≤ m ∧ ∀ z ∈ vblocks (.slice a D.since.length c), m < z)
def rowL (D : Dv) (a b c d : Value) : List Value := [.int .i64 D.size, a, b, c, d, .int .i64 D.fall, .bool D.down]
def cloneRow (D : Dv) (m1 m3 m4 : Nat) (sv : Value) (f : Nat → Bool) (v : Nat → Value) : List Value := rowL D (if f 21 = true then v 4 else .map (some m1)) (if f 27 = true then v 19 else sv) (if f 23 = true then v 9 else .map (some m3)) (if f 25 = true then v 14 else .map (some m4))
section
variable {D : Dv} {m1 m3 m4 : Nat} {sv : Value} {f : Nat → Bool} {v : Nat → Value} {u : Value}
theorem row_4 (h : f 21 = false) : cloneRow D m1 m3 m4 sv (setU f 4 true) (setU v 4 u) = cloneRow D m1 m3 m4 sv f v := by simp [cloneRow, setU, h]
theorem row_9 (h : f 23 = false) : cloneRow D m1 m3 m4 sv (setU f 9 true) (setU v 9 u) = cloneRow D m1 m3 m4 sv f v := by simp [cloneRow, setU, h]
theorem row_14 (h : f 25 = false) : cloneRow D m1 m3 m4 sv (setU f 14 true) (setU v 14 u) = cloneRow D m1 m3 m4 sv f v := by simp [cloneRow, setU, h]
theorem row_19 (h : f 27 = false) : cloneRow D m1 m3 m4 sv (setU f 19 true) (setU v 19 u) = cloneRow D m1 m3 m4 sv f v := by simp [cloneRow, setU, h]
theorem row_21 (h : f 21 = false) : cloneRow D m1 m3 m4 sv f v = rowL D (.map (some m1)) (if f 27 = true then v 19 else sv) (if f 23 = true then v 9 else .map (some m3)) (if f 25 = true then v 14 else .map (some m4)) := by simp [cloneRow, h]
theorem row_23 (h : f 23 = false) : cloneRow D m1 m3 m4 sv f v = rowL D (if f 21 = true then v 4 else .map (some m1)) (if f 27 = true then v 19 else sv) (.map (some m3)) (if f 25 = true then v 14 else .map (some m4)) := by simp [cloneRow, h]
theorem row_25 (h : f 25 = false) : cloneRow D m1 m3 m4 sv f v = rowL D (if f 21 = true then v 4 else .map (some m1)) (if f 27 = true then v 19 else sv) (if f 23 = true then v 9 else .map (some m3)) (.map (some m4)) := by simp [cloneRow, h]
theorem row_27 (h : f 27 = false) : cloneRow D m1 m3 m4 sv f v = rowL D (if f 21 = true then v 4 else .map (some m1)) sv (if f 23 = true then v 9 else .map (some m3)) (if f 25 = true then v 14 else .map (some m4)) := by simp [cloneRow, h]
theorem rowS_21 (h : v 4 = u) (x : Value) : cloneRow D m1 m3 m4 sv (setU f 21 true) (setU v 21 x) = (rowL D (.map (some m1)) (if f 27 = true then v 19 else sv) (if f 23 = true then v 9 else .map (some m3)) (if f 25 = true then v 14 else .map (some m4))).set 1 u := by subst h; simp [cloneRow, setU, rowL]
theorem rowS_23 (h : v 9 = u) (x : Value) : cloneRow D m1 m3 m4 sv (setU f 23 true) (setU v 23 x) = (rowL D (if f 21 = true then v 4 else .map (some m1)) (if f 27 = true then v 19 else sv) (.map (some m3)) (if f 25 = true then v 14 else .map (some m4))).set 3 u := by subst h; simp [cloneRow, setU, rowL]
theorem rowS_25 (h : v 14 = u) (x : Value) : cloneRow D m1 m3 m4 sv (setU f 25 true) (setU v 25 x) = (rowL D (if f 21 = true then v 4 else .map (some m1)) (if f 27 = true then v 19 else sv) (if f 23 = true then v 9 else .map (some m3)) (.map (some m4))).set 4 u := by subst h; simp [cloneRow, setU, rowL]
theorem rowS_27 (h : v 19 = u) (x : Value) : cloneRow D m1 m3 m4 sv (setU f 27 true) (setU v 27 x) = (rowL D (if f 21 = true then v 4 else .map (some m1)) sv (if f 23 = true then v 9 else .map (some m3)) (if f 25 = true then v 14 else .map (some m4))).set 2 u := by subst h; simp [cloneRow, setU, rowL]
end
theorem CloneB.keep {W w w' : World} {C : Nat} {D : Dv} {f : Nat → Bool} {v : Nat → Value} (hC : C < W.heap.size) (h : CloneB W C D f v w) {G : List Nat} (hx : Ext G w w') (hG : ∀ z ∈ G, z = C) : CloneB W C D f v w' := by
  obtain ⟨h1, h2, h3, h4, h5⟩ := h
  have hs := hx.size
  have hn : ∀ m, W.heap.size ≤ m → m ∉ G := fun m hm hh => by have := hG m hh; omega
  refine ⟨h1.trans hx (fun z hz => .inl (by simp [hG z hz])), fun h => ?_, fun h => ?_, fun h => ?_, fun h => ?_⟩
  · obtain ⟨m, e, k1, k2, k3⟩ := h2 h
    exact ⟨m, e, k1.keep hx (hn m k2), k2, by omega⟩
  · obtain ⟨h0, m, m', e, e', k0, k1, k2, k3⟩ := h3 h
    exact ⟨h0, m, m', e, e', k0, k1.keep hx (hn m' k2), k2, by omega⟩
  · obtain ⟨h0, m, m', e, e', k0, k1, k2, k3⟩ := h4 h
    exact ⟨h0, m, m', e, e', k0, k1.keep hx (hn m' k2), k2, by omega⟩
  · obtain ⟨h0, m, a, c, e, e', k1, k2, k3⟩ := h5 h
    exact ⟨h0, m, a, c, e, e', k1.keep hx (fun z hz => hn z (by have := k3 z hz; omega)), k2, k3⟩
set_option maxRecDepth 100000 in
set_option maxHeartbeats 12800000 in
theorem clone_any (b : Nat) (F : List Nat) (D : Dv) (w : World) (h : DevAt w b F D) (hok : DvOk D) (hlen : D.since.length ≤ 1000000) :
    Calls Try.prog 25 #[.pointer (some ⟨b, 0, none⟩)] w (DevNew w D) := by
  obtain ⟨m1, m3, m4, sv, hi, -⟩ := h
  obtain ⟨sa, sc, rfl⟩ := Rd.isSlice hi.since.rd
  obtain ⟨c0, c1, c2, c3, c4, c5, c6⟩ := hi.c
  have HI := Hid.of hi
  have HLen := Hid.of hlen
  obtain ⟨C, hC⟩ : ∃ C, C = w.heap.size := ⟨_, rfl⟩
  obtain ⟨W, hW⟩ : ∃ W, W = w.alloc (.cells #[.int .i64 D.size, .map (some m1), .slice sa D.since.length sc, .map (some m3), .map (some m4), .int .i64 D.fall, .bool D.down] 81) := ⟨_, rfl⟩
  have hxW : Ext [] w W := by rw [hW]; exact (Ext.refl _ _).alloc _
  have HC0 : Hid (Blk W C 81 [.int .i64 D.size, .map (some m1), .slice sa D.since.length sc, .map (some m3), .map (some m4), .int .i64 D.fall, .bool D.down]) := Hid.of (by rw [hW]; exact Blk.newg hC.symm)
  have hCW : C < W.heap.size := Blk.lt HC0.out
  have HIW := Hid.of (hi.keep0 hxW)
  have HXW := Hid.of hxW
  have HCw := Hid.of hC
  clear hi hok hlen
  go_enter Try.func25, Try.ntmps25
  go_upto_region 4 with fail
  rw [← hW, ← hC]
  clear hW hC hxW c0 c1 c2 c3 c4 c5 c6
  have hbC : b ∉ [C] := by have := HIW.out.lts; have := HI.out.lts; have := HCw.out; simp; omega
  have cx : ∀ w', Ext [C] W w' → DevIn w' b m1 m3 m4 (.slice sa D.since.length sc) D := fun w' hx => HIW.out.keep hx hbC (by have := HI.out.lts; have := HCw.out; simp; omega) (by have := HI.out.lts; have := HCw.out; simp; omega) (by have := HI.out.lts; have := HCw.out; simp; omega) (fun z hz => by have := HI.out.slt z hz; have := HCw.out; simp; omega)
  have c45 := fun w' (hx : Ext [C] W w') => clones_any m1 _ _ w' (cx w' hx).safe
  have c46a := fun w' (hx : Ext [C] W w') => cloneb_any m3 _ _ w' (cx w' hx).lost
  have c46b := fun w' (hx : Ext [C] W w') => cloneb_any m4 _ _ w' (cx w' hx).hurt
  have c48 := fun w' (hx : Ext [C] W w') => clonechg_any _ D.since w' (cx w' hx).since.rd HLen.out
  have cl := fun w' (hx : Ext [C] W w') => (cx w' hx).c
  refine wp_region_u [9, 10, 11, 12, 13, 14, 15, 16, 17, 18, 19, 20, 21, 22, 23, 24, 25, 26, 27, 28, 29, 30, 31, 32] [4, 9, 14, 19, 21, 23, 25, 27] (fun n => match n with | 0 => .pointer (some ⟨b, 0, none⟩) | 1 => .pointer (some ⟨b, 0, none⟩) | 2 => .pointer (some ⟨b, 1, none⟩) | 3 => .map (some m1) | 5 => .pointer (some ⟨b, 0, none⟩) | 6 => .pointer (some ⟨b, 0, none⟩) | 7 => .pointer (some ⟨b, 3, none⟩) | 8 => .map (some m3) | 10 => .pointer (some ⟨b, 0, none⟩) | 11 => .pointer (some ⟨b, 0, none⟩) | 12 => .pointer (some ⟨b, 4, none⟩) | 13 => .map (some m4) | 15 => .pointer (some ⟨b, 0, none⟩) | 16 => .pointer (some ⟨b, 0, none⟩) | 17 => .pointer (some ⟨b, 2, none⟩) | 18 => .slice sa D.since.length sc | 20 => .pointer (some ⟨C, 1, none⟩) | 22 => .pointer (some ⟨C, 3, none⟩) | 24 => .pointer (some ⟨C, 4, none⟩) | 26 => .pointer (some ⟨C, 2, none⟩) | _ => undef) (fun f v wx => CloneB W C D f v wx ∧ Blk wx C 81 (cloneRow D m1 m3 m4 (.slice sa D.since.length sc) f v)) (by kernel_rfl) (by kernel_rfl) ?hst0_4 ?h00_4 ?hst_4 ?hend_4
  case hst0_4 =>
    rintro f v w w' ⟨h1, h2⟩ hx2
    exact ⟨h1.keep hCW hx2 (by simp), Blk.keep h2 hx2 List.not_mem_nil⟩
  case h00_4 =>
    exact ⟨⟨Ext.refl _ _, fun h => (by cases h), fun h => (by cases h), fun h => (by cases h), fun h => (by cases h)⟩, HC0.out⟩
  case hst_4 =>
    refine ⟨?f0_4, ?f1_4, ?f2_4, ?f3_4, ?f4_4, ?f5_4, ?f6_4, ?f7_4, ?f8_4, ?f9_4, ?f10_4, ?f11_4, ?f12_4, ?f13_4, ?f14_4, ?f15_4, ?f16_4, ?f17_4, ?f18_4, ?f19_4, ?f20_4, ?f21_4, ?f22_4, ?f23_4, ?f24_4, ?f25_4, ?f26_4, ?f27_4, trivial⟩
    case f0_4 =>
      intro f v g w' hJ hfi hb hd
      refine arm_u rfl ?_
      refine op_run rfl ?_
      generalize hA : mkAct _ _ g = A
      have h0 : A.tmps[0]?.getD undef = .pointer (some ⟨b, 0, none⟩) := by rw [← hA]; exact mkAct_out2 _ _ _ _ _ rfl rfl
      refine step_val (v := .pointer (some ⟨b, 0, none⟩)) (w' := w') ?_ ⟨rfl, Ext.refl _ _⟩
      simp [execOp, h0, Result.andThen, go_sem]
    case f1_4 =>
      intro f v g w' hJ hfi hb hd
      refine arm_u rfl ?_
      refine op_run rfl ?_
      have e9 : g 9 = .pointer (some ⟨b, 0, none⟩) := value_u (hd ⟨0, .data⟩ (by simp) rfl) rfl rfl
      generalize hA : mkAct _ _ g = A
      have h9 : A.tmps[9]?.getD undef = .pointer (some ⟨b, 0, none⟩) := by rw [← hA, mkAct_in2 _ _ _ _ rfl rfl]; exact e9
      refine step_val (v := .pointer (some ⟨b, 0, none⟩)) (w' := w') ?_ ⟨rfl, Ext.refl _ _⟩
      simp [execOp, h9, Result.andThen, go_sem]
    case f2_4 =>
      intro f v g w' hJ hfi hb hd
      refine arm_u rfl ?_
      refine op_run rfl ?_
      have e10 : g 10 = .pointer (some ⟨b, 0, none⟩) := value_u (hd ⟨1, .data⟩ (by simp) rfl) rfl rfl
      generalize hA : mkAct _ _ g = A
      have h10 : A.tmps[10]?.getD undef = .pointer (some ⟨b, 0, none⟩) := by rw [← hA, mkAct_in2 _ _ _ _ rfl rfl]; exact e10
      refine step_val (v := .pointer (some ⟨b, 1, none⟩)) (w' := w') ?_ ⟨rfl, Ext.refl _ _⟩
      simp [execOp, h10, Result.andThen, go_sem]
    case f3_4 =>
      intro f v g w' hJ hfi hb hd
      refine arm_u rfl ?_
      refine op_run rfl ?_
      have e11 : g 11 = .pointer (some ⟨b, 1, none⟩) := value_u (hd ⟨2, .data⟩ (by simp) rfl) rfl rfl
      generalize hA : mkAct _ _ g = A
      have h11 : A.tmps[11]?.getD undef = .pointer (some ⟨b, 1, none⟩) := by rw [← hA, mkAct_in2 _ _ _ _ rfl rfl]; exact e11
      have c := (cl w' hJ.1.1).2.1
      refine step_val (v := .map (some m1)) (w' := w') ?_ ⟨rfl, Ext.refl _ _⟩
      simp [execOp, h11, c, Result.andThen, go_sem]
    case f4_4 =>
      intro f v g w' hJ hfi hb hd
      refine arms_u rfl ?_
      refine op_run rfl ?_
      have e12 : g 12 = .map (some m1) := value_u (hd ⟨3, .data⟩ (by simp) rfl) rfl rfl
      generalize hA : mkAct _ _ g = A
      have h12 : A.tmps[12]?.getD undef = .map (some m1) := by rw [← hA, mkAct_in2 _ _ _ _ rfl rfl]; exact e12
      refine mid_u (fun K hK => ?_)
      go_simp
      refine (c45 w' hJ.1.1).mono ?_
      rintro e w2 ⟨rfl, hm, hx2⟩
      exact hK (.map (some w'.heap.size)) w2 ⟨⟨((hJ.1.keep hCW hx2 (by simp))).1, fun _ => ⟨w'.heap.size, setU_same _ _ _, hm, hJ.1.1.size, hm.lt⟩, fun h => (by have h' : f 9 = true := h; rw [not_yet hb (by kernel_rfl)] at h'; cases h'), fun h => (by have h' : f 14 = true := h; have h2 := (hJ.1.2.2.2.1 h').1; rw [not_yet hb (by kernel_rfl)] at h2; cases h2), fun h => (by have h' : f 19 = true := h; have h1 := (hJ.1.2.2.2.2 h').1; have h2 := (hJ.1.2.2.2.1 h1).1; rw [not_yet hb (by kernel_rfl)] at h2; cases h2)⟩, (by rw [row_4 (not_yet hb (by kernel_rfl))]; exact Blk.keep hJ.2 hx2 List.not_mem_nil)⟩
    case f5_4 =>
      intro f v g w' hJ hfi hb hd
      refine arm_u rfl ?_
      refine op_run rfl ?_
      generalize hA : mkAct _ _ g = A
      have h0 : A.tmps[0]?.getD undef = .pointer (some ⟨b, 0, none⟩) := by rw [← hA]; exact mkAct_out2 _ _ _ _ _ rfl rfl
      refine step_val (v := .pointer (some ⟨b, 0, none⟩)) (w' := w') ?_ ⟨rfl, Ext.refl _ _⟩
      simp [execOp, h0, Result.andThen, go_sem]
    case f6_4 =>
      intro f v g w' hJ hfi hb hd
      refine arm_u rfl ?_
      refine op_run rfl ?_
      have e14 : g 14 = .pointer (some ⟨b, 0, none⟩) := value_u (hd ⟨5, .data⟩ (by simp) rfl) rfl rfl
      generalize hA : mkAct _ _ g = A
      have h14 : A.tmps[14]?.getD undef = .pointer (some ⟨b, 0, none⟩) := by rw [← hA, mkAct_in2 _ _ _ _ rfl rfl]; exact e14
      refine step_val (v := .pointer (some ⟨b, 0, none⟩)) (w' := w') ?_ ⟨rfl, Ext.refl _ _⟩
      simp [execOp, h14, Result.andThen, go_sem]
    case f7_4 =>
      intro f v g w' hJ hfi hb hd
      refine arm_u rfl ?_
      refine op_run rfl ?_
      have e15 : g 15 = .pointer (some ⟨b, 0, none⟩) := value_u (hd ⟨6, .data⟩ (by simp) rfl) rfl rfl
      generalize hA : mkAct _ _ g = A
      have h15 : A.tmps[15]?.getD undef = .pointer (some ⟨b, 0, none⟩) := by rw [← hA, mkAct_in2 _ _ _ _ rfl rfl]; exact e15
      refine step_val (v := .pointer (some ⟨b, 3, none⟩)) (w' := w') ?_ ⟨rfl, Ext.refl _ _⟩
      simp [execOp, h15, Result.andThen, go_sem]
    case f8_4 =>
      intro f v g w' hJ hfi hb hd
      refine arm_u rfl ?_
      refine op_run rfl ?_
      have e16 : g 16 = .pointer (some ⟨b, 3, none⟩) := value_u (hd ⟨7, .data⟩ (by simp) rfl) rfl rfl
      generalize hA : mkAct _ _ g = A
      have h16 : A.tmps[16]?.getD undef = .pointer (some ⟨b, 3, none⟩) := by rw [← hA, mkAct_in2 _ _ _ _ rfl rfl]; exact e16
      have c := (cl w' hJ.1.1).2.2.2.1
      refine step_val (v := .map (some m3)) (w' := w') ?_ ⟨rfl, Ext.refl _ _⟩
      simp [execOp, h16, c, Result.andThen, go_sem]
    case f9_4 =>
      intro f v g w' hJ hfi hb hd
      refine arms_u rfl ?_
      refine op_run rfl ?_
      have e17 : g 17 = .map (some m3) := value_u (hd ⟨8, .data⟩ (by simp) rfl) rfl rfl
      generalize hA : mkAct _ _ g = A
      have h17 : A.tmps[17]?.getD undef = .map (some m3) := by rw [← hA, mkAct_in2 _ _ _ _ rfl rfl]; exact e17
      refine mid_u (fun K hK => ?_)
      go_simp
      refine (c46a w' hJ.1.1).mono ?_
      rintro e w2 ⟨rfl, hm, hx2⟩
      exact hK (.map (some w'.heap.size)) w2 ⟨⟨((hJ.1.keep hCW hx2 (by simp))).1, fun h => ((hJ.1.keep hCW hx2 (by simp))).2.1 h, fun _ => (by obtain ⟨m, e, k1, k2, k3⟩ := hJ.1.2.1 ((hd ⟨4, .chain⟩ (by simp) rfl).2 rfl).1; exact ⟨((hd ⟨4, .chain⟩ (by simp) rfl).2 rfl).1, m, w'.heap.size, e, setU_same _ _ _, k3, hm, hJ.1.1.size, hm.lt⟩), fun h => (by have h' : f 14 = true := h; rw [not_yet hb (by kernel_rfl)] at h'; cases h'), fun h => (by have h' : f 19 = true := h; have h1 := (hJ.1.2.2.2.2 h').1; rw [not_yet hb (by kernel_rfl)] at h1; cases h1)⟩, (by rw [row_9 (not_yet hb (by kernel_rfl))]; exact Blk.keep hJ.2 hx2 List.not_mem_nil)⟩
    case f10_4 =>
      intro f v g w' hJ hfi hb hd
      refine arm_u rfl ?_
      refine op_run rfl ?_
      generalize hA : mkAct _ _ g = A
      have h0 : A.tmps[0]?.getD undef = .pointer (some ⟨b, 0, none⟩) := by rw [← hA]; exact mkAct_out2 _ _ _ _ _ rfl rfl
      refine step_val (v := .pointer (some ⟨b, 0, none⟩)) (w' := w') ?_ ⟨rfl, Ext.refl _ _⟩
      simp [execOp, h0, Result.andThen, go_sem]
    case f11_4 =>
      intro f v g w' hJ hfi hb hd
      refine arm_u rfl ?_
      refine op_run rfl ?_
      have e19 : g 19 = .pointer (some ⟨b, 0, none⟩) := value_u (hd ⟨10, .data⟩ (by simp) rfl) rfl rfl
      generalize hA : mkAct _ _ g = A
      have h19 : A.tmps[19]?.getD undef = .pointer (some ⟨b, 0, none⟩) := by rw [← hA, mkAct_in2 _ _ _ _ rfl rfl]; exact e19
      refine step_val (v := .pointer (some ⟨b, 0, none⟩)) (w' := w') ?_ ⟨rfl, Ext.refl _ _⟩
      simp [execOp, h19, Result.andThen, go_sem]
    case f12_4 =>
      intro f v g w' hJ hfi hb hd
      refine arm_u rfl ?_
      refine op_run rfl ?_
      have e20 : g 20 = .pointer (some ⟨b, 0, none⟩) := value_u (hd ⟨11, .data⟩ (by simp) rfl) rfl rfl
      generalize hA : mkAct _ _ g = A
      have h20 : A.tmps[20]?.getD undef = .pointer (some ⟨b, 0, none⟩) := by rw [← hA, mkAct_in2 _ _ _ _ rfl rfl]; exact e20
      refine step_val (v := .pointer (some ⟨b, 4, none⟩)) (w' := w') ?_ ⟨rfl, Ext.refl _ _⟩
      simp [execOp, h20, Result.andThen, go_sem]
    case f13_4 =>
      intro f v g w' hJ hfi hb hd
      refine arm_u rfl ?_
      refine op_run rfl ?_
      have e21 : g 21 = .pointer (some ⟨b, 4, none⟩) := value_u (hd ⟨12, .data⟩ (by simp) rfl) rfl rfl
      generalize hA : mkAct _ _ g = A
      have h21 : A.tmps[21]?.getD undef = .pointer (some ⟨b, 4, none⟩) := by rw [← hA, mkAct_in2 _ _ _ _ rfl rfl]; exact e21
      have c := (cl w' hJ.1.1).2.2.2.2.1
      refine step_val (v := .map (some m4)) (w' := w') ?_ ⟨rfl, Ext.refl _ _⟩
      simp [execOp, h21, c, Result.andThen, go_sem]
    case f14_4 =>
      intro f v g w' hJ hfi hb hd
      refine arms_u rfl ?_
      refine op_run rfl ?_
      have e22 : g 22 = .map (some m4) := value_u (hd ⟨13, .data⟩ (by simp) rfl) rfl rfl
      generalize hA : mkAct _ _ g = A
      have h22 : A.tmps[22]?.getD undef = .map (some m4) := by rw [← hA, mkAct_in2 _ _ _ _ rfl rfl]; exact e22
      refine mid_u (fun K hK => ?_)
      go_simp
      refine (c46b w' hJ.1.1).mono ?_
      rintro e w2 ⟨rfl, hm, hx2⟩
      exact hK (.map (some w'.heap.size)) w2 ⟨⟨((hJ.1.keep hCW hx2 (by simp))).1, fun h => ((hJ.1.keep hCW hx2 (by simp))).2.1 h, fun h => ((hJ.1.keep hCW hx2 (by simp))).2.2.1 h, fun _ => (by obtain ⟨_, m, m', e, e', k0, k1, k2, k3⟩ := hJ.1.2.2.1 ((hd ⟨9, .chain⟩ (by simp) rfl).2 rfl).1; exact ⟨((hd ⟨9, .chain⟩ (by simp) rfl).2 rfl).1, m', w'.heap.size, e', setU_same _ _ _, k3, hm, hJ.1.1.size, hm.lt⟩), fun h => (by have h' : f 19 = true := h; rw [not_yet hb (by kernel_rfl)] at h'; cases h')⟩, (by rw [row_14 (not_yet hb (by kernel_rfl))]; exact Blk.keep hJ.2 hx2 List.not_mem_nil)⟩
    case f15_4 =>
      intro f v g w' hJ hfi hb hd
      refine arm_u rfl ?_
      refine op_run rfl ?_
      generalize hA : mkAct _ _ g = A
      have h0 : A.tmps[0]?.getD undef = .pointer (some ⟨b, 0, none⟩) := by rw [← hA]; exact mkAct_out2 _ _ _ _ _ rfl rfl
      refine step_val (v := .pointer (some ⟨b, 0, none⟩)) (w' := w') ?_ ⟨rfl, Ext.refl _ _⟩
      simp [execOp, h0, Result.andThen, go_sem]
    case f16_4 =>
      intro f v g w' hJ hfi hb hd
      refine arm_u rfl ?_
      refine op_run rfl ?_
      have e24 : g 24 = .pointer (some ⟨b, 0, none⟩) := value_u (hd ⟨15, .data⟩ (by simp) rfl) rfl rfl
      generalize hA : mkAct _ _ g = A
      have h24 : A.tmps[24]?.getD undef = .pointer (some ⟨b, 0, none⟩) := by rw [← hA, mkAct_in2 _ _ _ _ rfl rfl]; exact e24
      refine step_val (v := .pointer (some ⟨b, 0, none⟩)) (w' := w') ?_ ⟨rfl, Ext.refl _ _⟩
      simp [execOp, h24, Result.andThen, go_sem]
    case f17_4 =>
      intro f v g w' hJ hfi hb hd
      refine arm_u rfl ?_
      refine op_run rfl ?_
      have e25 : g 25 = .pointer (some ⟨b, 0, none⟩) := value_u (hd ⟨16, .data⟩ (by simp) rfl) rfl rfl
      generalize hA : mkAct _ _ g = A
      have h25 : A.tmps[25]?.getD undef = .pointer (some ⟨b, 0, none⟩) := by rw [← hA, mkAct_in2 _ _ _ _ rfl rfl]; exact e25
      refine step_val (v := .pointer (some ⟨b, 2, none⟩)) (w' := w') ?_ ⟨rfl, Ext.refl _ _⟩
      simp [execOp, h25, Result.andThen, go_sem]
    case f18_4 =>
      intro f v g w' hJ hfi hb hd
      refine arm_u rfl ?_
      refine op_run rfl ?_
      have e26 : g 26 = .pointer (some ⟨b, 2, none⟩) := value_u (hd ⟨17, .data⟩ (by simp) rfl) rfl rfl
      generalize hA : mkAct _ _ g = A
      have h26 : A.tmps[26]?.getD undef = .pointer (some ⟨b, 2, none⟩) := by rw [← hA, mkAct_in2 _ _ _ _ rfl rfl]; exact e26
      have c := (cl w' hJ.1.1).2.2.1
      refine step_val (v := .slice sa D.since.length sc) (w' := w') ?_ ⟨rfl, Ext.refl _ _⟩
      simp [execOp, h26, c, Result.andThen, go_sem]
    case f19_4 =>
      intro f v g w' hJ hfi hb hd
      refine arms_u rfl ?_
      refine op_run rfl ?_
      have e27 : g 27 = .slice sa D.since.length sc := value_u (hd ⟨18, .data⟩ (by simp) rfl) rfl rfl
      generalize hA : mkAct _ _ g = A
      have h27 : A.tmps[27]?.getD undef = .slice sa D.since.length sc := by rw [← hA, mkAct_in2 _ _ _ _ rfl rfl]; exact e27
      refine mid_u (fun K hK => ?_)
      go_simp
      refine (c48 w' hJ.1.1).mono ?_
      rintro e w2 ⟨yv, rfl, ho, hx2, hv⟩
      obtain ⟨ya, yc, rfl⟩ := Rd.isSlice ho.rd
      exact hK (.slice ya D.since.length yc) w2 ⟨⟨((hJ.1.keep hCW hx2 (by simp))).1, fun h => ((hJ.1.keep hCW hx2 (by simp))).2.1 h, fun h => ((hJ.1.keep hCW hx2 (by simp))).2.2.1 h, fun h => ((hJ.1.keep hCW hx2 (by simp))).2.2.2.1 h, fun _ => (by obtain ⟨_, m, m', e, e', k0, k1, k2, k3⟩ := hJ.1.2.2.2.1 ((hd ⟨14, .chain⟩ (by simp) rfl).2 rfl).1; exact ⟨((hd ⟨14, .chain⟩ (by simp) rfl).2 rfl).1, m', ya, yc, e', setU_same _ _ _, ho, k2, fun z hz => (by have := hv z hz; omega)⟩)⟩, (by rw [row_19 (not_yet hb (by kernel_rfl))]; exact Blk.keep hJ.2 hx2 List.not_mem_nil)⟩
    case f20_4 =>
      intro f v g w' hJ hfi hb hd
      refine arm_u rfl ?_
      refine op_run rfl ?_
      generalize hA : mkAct _ _ g = A
      have h3 : A.tmps[3]?.getD undef = .pointer (some ⟨C, 0, none⟩) := by rw [← hA]; exact mkAct_out2 _ _ _ _ _ rfl rfl
      refine step_val (v := .pointer (some ⟨C, 1, none⟩)) (w' := w') ?_ ⟨rfl, Ext.refl _ _⟩
      simp [execOp, h3, Result.andThen, go_sem]
    case f21_4 =>
      intro f v g w' hJ hfi hb hd
      refine arms_u rfl ?_
      refine op_run rfl ?_
      have e29 : g 29 = .pointer (some ⟨C, 1, none⟩) := value_u (hd ⟨20, .data⟩ (by simp) rfl) rfl rfl
      obtain ⟨hf13, e13⟩ := special_u (hd ⟨4, .data⟩ (by simp) rfl) rfl rfl
      replace e13 : g 13 = v 4 := e13
      obtain ⟨ma, ez, -⟩ := hJ.1.2.1 hf13
      rw [ez] at e13
      generalize hA : mkAct _ _ g = A
      have h29 : A.tmps[29]?.getD undef = .pointer (some ⟨C, 1, none⟩) := by rw [← hA, mkAct_in2 _ _ _ _ rfl rfl]; exact e29
      have h13 : A.tmps[13]?.getD undef = .map (some ma) := by rw [← hA, mkAct_in2 _ _ _ _ rfl rfl]; exact e13
      have hB0 := (show Blk w' C 81 _ from (row_21 (D := D) (m1 := m1) (m3 := m3) (m4 := m4) (sv := .slice sa D.since.length sc) (v := v) hfi) ▸ hJ.2)
      have c0 : w'.cell? ⟨C, 1, none⟩ = some (.map (some m1)) := Blk.c hB0 1
      have cf := fun j => Blk.f hB0 j
      have cl := Blk.lt hB0
      have HX9 : Ext [C] w' (w'.setCell ⟨C, 1, none⟩ (.map (some ma))) := ((Ext.refl [C] w').setCell (p := ⟨C, 1, none⟩) (.inl (List.mem_singleton.2 rfl)) (.map (some ma)))
      have HB9 := (Blk.set hB0 1 (.map (some ma)))
      refine step_skip (w' := (w'.setCell ⟨C, 1, none⟩ (.map (some ma)))) ?_ ⟨undef, rfl, hJ.1.keep hCW HX9 (by simp), (by rw [rowS_21 ez]; exact HB9)⟩
      simp [execOp, h29, h13, c0, cf, cl, Result.andThen, go_sem]
    case f22_4 =>
      intro f v g w' hJ hfi hb hd
      refine arm_u rfl ?_
      refine op_run rfl ?_
      generalize hA : mkAct _ _ g = A
      have h3 : A.tmps[3]?.getD undef = .pointer (some ⟨C, 0, none⟩) := by rw [← hA]; exact mkAct_out2 _ _ _ _ _ rfl rfl
      refine step_val (v := .pointer (some ⟨C, 3, none⟩)) (w' := w') ?_ ⟨rfl, Ext.refl _ _⟩
      simp [execOp, h3, Result.andThen, go_sem]
    case f23_4 =>
      intro f v g w' hJ hfi hb hd
      refine arms_u rfl ?_
      refine op_run rfl ?_
      have e30 : g 30 = .pointer (some ⟨C, 3, none⟩) := value_u (hd ⟨22, .data⟩ (by simp) rfl) rfl rfl
      obtain ⟨hf18, e18⟩ := special_u (hd ⟨9, .data⟩ (by simp) rfl) rfl rfl
      replace e18 : g 18 = v 9 := e18
      obtain ⟨-, -, ma, -, ez, -⟩ := hJ.1.2.2.1 hf18
      rw [ez] at e18
      generalize hA : mkAct _ _ g = A
      have h30 : A.tmps[30]?.getD undef = .pointer (some ⟨C, 3, none⟩) := by rw [← hA, mkAct_in2 _ _ _ _ rfl rfl]; exact e30
      have h18 : A.tmps[18]?.getD undef = .map (some ma) := by rw [← hA, mkAct_in2 _ _ _ _ rfl rfl]; exact e18
      have hB0 := (show Blk w' C 81 _ from (row_23 (D := D) (m1 := m1) (m3 := m3) (m4 := m4) (sv := .slice sa D.since.length sc) (v := v) hfi) ▸ hJ.2)
      have c0 : w'.cell? ⟨C, 3, none⟩ = some (.map (some m3)) := Blk.c hB0 3
      have cf := fun j => Blk.f hB0 j
      have cl := Blk.lt hB0
      have HX9 : Ext [C] w' (w'.setCell ⟨C, 3, none⟩ (.map (some ma))) := ((Ext.refl [C] w').setCell (p := ⟨C, 3, none⟩) (.inl (List.mem_singleton.2 rfl)) (.map (some ma)))
      have HB9 := (Blk.set hB0 3 (.map (some ma)))
      refine step_skip (w' := (w'.setCell ⟨C, 3, none⟩ (.map (some ma)))) ?_ ⟨undef, rfl, hJ.1.keep hCW HX9 (by simp), (by rw [rowS_23 ez]; exact HB9)⟩
      simp [execOp, h30, h18, c0, cf, cl, Result.andThen, go_sem]
    case f24_4 =>
      intro f v g w' hJ hfi hb hd
      refine arm_u rfl ?_
      refine op_run rfl ?_
      generalize hA : mkAct _ _ g = A
      have h3 : A.tmps[3]?.getD undef = .pointer (some ⟨C, 0, none⟩) := by rw [← hA]; exact mkAct_out2 _ _ _ _ _ rfl rfl
      refine step_val (v := .pointer (some ⟨C, 4, none⟩)) (w' := w') ?_ ⟨rfl, Ext.refl _ _⟩
      simp [execOp, h3, Result.andThen, go_sem]
    case f25_4 =>
      intro f v g w' hJ hfi hb hd
      refine arms_u rfl ?_
      refine op_run rfl ?_
      have e31 : g 31 = .pointer (some ⟨C, 4, none⟩) := value_u (hd ⟨24, .data⟩ (by simp) rfl) rfl rfl
      obtain ⟨hf23, e23⟩ := special_u (hd ⟨14, .data⟩ (by simp) rfl) rfl rfl
      replace e23 : g 23 = v 14 := e23
      obtain ⟨-, -, ma, -, ez, -⟩ := hJ.1.2.2.2.1 hf23
      rw [ez] at e23
      generalize hA : mkAct _ _ g = A
      have h31 : A.tmps[31]?.getD undef = .pointer (some ⟨C, 4, none⟩) := by rw [← hA, mkAct_in2 _ _ _ _ rfl rfl]; exact e31
      have h23 : A.tmps[23]?.getD undef = .map (some ma) := by rw [← hA, mkAct_in2 _ _ _ _ rfl rfl]; exact e23
      have hB0 := (show Blk w' C 81 _ from (row_25 (D := D) (m1 := m1) (m3 := m3) (m4 := m4) (sv := .slice sa D.since.length sc) (v := v) hfi) ▸ hJ.2)
      have c0 : w'.cell? ⟨C, 4, none⟩ = some (.map (some m4)) := Blk.c hB0 4
      have cf := fun j => Blk.f hB0 j
      have cl := Blk.lt hB0
      have HX9 : Ext [C] w' (w'.setCell ⟨C, 4, none⟩ (.map (some ma))) := ((Ext.refl [C] w').setCell (p := ⟨C, 4, none⟩) (.inl (List.mem_singleton.2 rfl)) (.map (some ma)))
      have HB9 := (Blk.set hB0 4 (.map (some ma)))
      refine step_skip (w' := (w'.setCell ⟨C, 4, none⟩ (.map (some ma)))) ?_ ⟨undef, rfl, hJ.1.keep hCW HX9 (by simp), (by rw [rowS_25 ez]; exact HB9)⟩
      simp [execOp, h31, h23, c0, cf, cl, Result.andThen, go_sem]
    case f26_4 =>
      intro f v g w' hJ hfi hb hd
      refine arm_u rfl ?_
      refine op_run rfl ?_
      generalize hA : mkAct _ _ g = A
      have h3 : A.tmps[3]?.getD undef = .pointer (some ⟨C, 0, none⟩) := by rw [← hA]; exact mkAct_out2 _ _ _ _ _ rfl rfl
      refine step_val (v := .pointer (some ⟨C, 2, none⟩)) (w' := w') ?_ ⟨rfl, Ext.refl _ _⟩
      simp [execOp, h3, Result.andThen, go_sem]
    case f27_4 =>
      intro f v g w' hJ hfi hb hd
      refine arms_u rfl ?_
      refine op_run rfl ?_
      have e32 : g 32 = .pointer (some ⟨C, 2, none⟩) := value_u (hd ⟨26, .data⟩ (by simp) rfl) rfl rfl
      obtain ⟨hf28, e28⟩ := special_u (hd ⟨19, .data⟩ (by simp) rfl) rfl rfl
      replace e28 : g 28 = v 19 := e28
      obtain ⟨-, -, xa, xc, -, ez, -⟩ := hJ.1.2.2.2.2 hf28
      rw [ez] at e28
      generalize hA : mkAct _ _ g = A
      have h32 : A.tmps[32]?.getD undef = .pointer (some ⟨C, 2, none⟩) := by rw [← hA, mkAct_in2 _ _ _ _ rfl rfl]; exact e32
      have h28 : A.tmps[28]?.getD undef = .slice xa D.since.length xc := by rw [← hA, mkAct_in2 _ _ _ _ rfl rfl]; exact e28
      have hB0 := (show Blk w' C 81 _ from (row_27 (D := D) (m1 := m1) (m3 := m3) (m4 := m4) (sv := .slice sa D.since.length sc) (v := v) hfi) ▸ hJ.2)
      have c0 : w'.cell? ⟨C, 2, none⟩ = some (.slice sa D.since.length sc) := Blk.c hB0 2
      have cf := fun j => Blk.f hB0 j
      have cl := Blk.lt hB0
      have HX9 : Ext [C] w' (w'.setCell ⟨C, 2, none⟩ (.slice xa D.since.length xc)) := ((Ext.refl [C] w').setCell (p := ⟨C, 2, none⟩) (.inl (List.mem_singleton.2 rfl)) (.slice xa D.since.length xc))
      have HB9 := (Blk.set hB0 2 (.slice xa D.since.length xc))
      refine step_skip (w' := (w'.setCell ⟨C, 2, none⟩ (.slice xa D.since.length xc))) ?_ ⟨undef, rfl, hJ.1.keep hCW HX9 (by simp), (by rw [rowS_27 ez]; exact HB9)⟩
      simp [execOp, h32, h28, c0, cf, cl, Result.andThen, go_sem]
  intro f v g wn hJ hk
  have hfs21 : f 21 = true := ((hk 21 (by decide)).2 rfl).1
  have hfs23 : f 23 = true := ((hk 23 (by decide)).2 rfl).1
  have hfs25 : f 25 = true := ((hk 25 (by decide)).2 rfl).1
  have hfs27 : f 27 = true := ((hk 27 (by decide)).2 rfl).1
  obtain ⟨hB, hrow⟩ := hJ
  obtain ⟨hx9, q4, q9, q14, q19⟩ := hB
  have f4 := ((hk 4 (by decide)).2 rfl).1
  have f9 := ((hk 9 (by decide)).2 rfl).1
  have f14 := ((hk 14 (by decide)).2 rfl).1
  have f19 := ((hk 19 (by decide)).2 rfl).1
  obtain ⟨n1, e1, k1, k2, k3⟩ := q4 f4
  obtain ⟨-, n1', n3, e1', e3, l13, k4, k5, k6⟩ := q9 f9
  obtain ⟨-, n3', n4, e3', e4, l34, k7, k8, k9⟩ := q14 f14
  obtain ⟨-, n4', na, nc, e4', e5, k10, k11, k12⟩ := q19 f19
  rw [e1] at e1'; cases e1'
  rw [e3] at e3'; cases e3'
  rw [e4] at e4'; cases e4'
  simp only [cloneRow, rowL, hfs21, hfs23, hfs25, hfs27, if_true, e1, e3, e4, e5] at hrow
  have hIn : DevIn wn C n1 n3 n4 (.slice na D.since.length nc) D := ⟨hrow, k1, k4, k7, k10, by omega, by omega, by omega, by omega, by omega, by omega, fun z hz => by have := k12 z hz; omega⟩
  have HIn := Hid.of hIn
  have HXn := Hid.of (HXW.out.trans hx9 (fun z hz => by simp at hz; subst hz; right; have := HCw.out; omega))
  have HF : Hid (∀ k ∈ C :: n1 :: n3 :: n4 :: vblocks (.slice na D.since.length nc), w.heap.size ≤ k) := Hid.of (fun k hk => by
    have := HCw.out
    simp only [List.mem_cons] at hk
    rcases hk with rfl | rfl | rfl | rfl | hk
    · omega
    · omega
    · omega
    · omega
    · have := k12 k hk; omega)
  clear hk q4 q9 q14 q19 hx9 hIn hrow c45 c46a c46b c48 cl cx e1 e3 e4 e5 k1 k4 k7 k10 k12 hfs21 hfs23 hfs25 hfs27 f4 f9 f14 f19
  unfold mkAct; simp only [List.zipIdx_cons, List.zipIdx_nil, List.map_cons, List.map_nil, Nat.zero_add, Nat.reduceAdd, List.contains_cons, List.contains_nil, Nat.reduceBEq, Bool.or_false, Bool.or_true, ↓reduceIte, Bool.false_eq_true]
  go_wp2
  go_ret
  exact ⟨C, _, rfl, HIn.out.at, HF.out, HXn.out⟩
end Go.Proofs.Ytlnfigbcdmfmdaa
