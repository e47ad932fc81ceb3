/- Package net: the walk of Next. -/
import Derived.Test.YtaekkkcgoegllaaNetg
import Derived.Test.YtaekkkcgoegllaaRegInvG
namespace Go.Proofs.Ytaekkkcgoegllaa
open Go.RowKit
set_option linter.unusedVariables false
set_option linter.unusedSimpArgs false

def Ms.zero : Ms := ⟨0, 0, 0, 0, 0, 0, 0, 0, none, 0, 0, false, 0, 0, 0, 0, none, 0, 0, 0, []⟩
theorem al_zero (W : World) : (Instr.alloc 36 true (.tuple #[])).run Try.prog W = .ok (.pointer (some ⟨W.heap.size, 0, none⟩)) (W.alloc (.cells Ms.zero.cells.toArray 36)) := al_msg W
theorem fld_m (l : Lt) (W : World) : (Instr.field 74 (.agg l.cells.toArray) 2).run Try.prog W = .ok (.agg l.m.cells.toArray) W := by kernel_rfl
theorem Blk.there {w : World} {g : Nat} {t : TypeId} {cs : List Value} (h : Blk w g t cs) : w.there g 0 cs.length := by
  intro j hj
  rw [Nat.zero_add]
  exact ⟨by rw [h.c j, List.getElem?_eq_getElem hj]; rfl, h.f j⟩
theorem mall (m : Ms) : m.cells.toArray.all (·.oneCell') = true := all_oneCell_toArray (mcells_one m)
def nxnilΦ (_ : Unit) (n : Nat) (y : Value) (w : World) : Prop :=
  match n with
  | 0 => y = .pointer none
  | 1 => y = .int .i64 0
  | 2 => y = .bool true
  | 3 => y = .bool true
  | 16 => y = .bool true
  | _ => True
theorem nxnilΦ_keep (_ : Unit) (n : Nat) (y : Value) (w w' : World) (h : nxnilΦ () n y w) (hx : Ext [] w w') : nxnilΦ () n y w' := by
  unfold nxnilΦ at h ⊢
  split at h <;> exact h
def nxzeroΦ (b : Nat) (A : List Lt) (n : Nat) (y : Value) (w : World) : Prop :=
  match n with
  | 0 => y = .pointer (some ⟨b, 0, none⟩)
  | 1 => y = .int .i64 (A.length : Int)
  | 2 => y = .bool true
  | 3 => y = .bool true
  | 16 => y = .bool true
  | _ => True
theorem nxzeroΦ_keep (b : Nat) (A : List Lt) (n : Nat) (y : Value) (w w' : World) (h : nxzeroΦ b A n y w) (hx : Ext [] w w') : nxzeroΦ b A n y w' := by
  unfold nxzeroΦ at h ⊢
  split at h <;> exact h
def nxlateΦ (b g off m c : Nat) (D now : Int) (A : List Lt) (n : Nat) (y : Value) (w : World) : Prop :=
  match n with
  | 0 => y = .pointer (some ⟨b, 0, none⟩)
  | 1 => y = .int .i64 (A.length : Int)
  | 2 => y = .bool false
  | 3 => y = .bool false
  | 4 => y = .pointer (some ⟨b, 0, none⟩)
  | 5 => y = .pointer (some ⟨b, 0, none⟩)
  | 6 => y = .pointer (some ⟨b, 0, none⟩)
  | 7 => y = .slice (some ⟨g, off, none⟩) m c
  | 8 => y = .pointer (some ⟨g, off, none⟩)
  | 9 => y = .pointer (some ⟨g, off, none⟩)
  | 10 => y = .int .i64 D
  | 11 => y = .pointer (some ⟨b, 0, none⟩)
  | 12 => y = .pointer (some ⟨b, 0, none⟩)
  | 13 => y = .pointer (some ⟨b, 1, none⟩)
  | 14 => y = .int .i64 now
  | 15 => y = .bool true
  | 16 => y = .bool true
  | _ => True
theorem nxlateΦ_keep (b g off m c : Nat) (D now : Int) (A : List Lt) (n : Nat) (y : Value) (w w' : World) (h : nxlateΦ b g off m c D now A n y w) (hx : Ext [] w w') : nxlateΦ b g off m c D now A n y w' := by
  unfold nxlateΦ at h ⊢
  split at h <;> exact h
def nxdueΦ (b g off m c : Nat) (D now : Int) (A : List Lt) (n : Nat) (y : Value) (w : World) : Prop :=
  match n with
  | 0 => y = .pointer (some ⟨b, 0, none⟩)
  | 1 => y = .int .i64 (A.length : Int)
  | 2 => y = .bool false
  | 3 => y = .bool false
  | 4 => y = .pointer (some ⟨b, 0, none⟩)
  | 5 => y = .pointer (some ⟨b, 0, none⟩)
  | 6 => y = .pointer (some ⟨b, 0, none⟩)
  | 7 => y = .slice (some ⟨g, off, none⟩) m c
  | 8 => y = .pointer (some ⟨g, off, none⟩)
  | 9 => y = .pointer (some ⟨g, off, none⟩)
  | 10 => y = .int .i64 D
  | 11 => y = .pointer (some ⟨b, 0, none⟩)
  | 12 => y = .pointer (some ⟨b, 0, none⟩)
  | 13 => y = .pointer (some ⟨b, 1, none⟩)
  | 14 => y = .int .i64 now
  | 15 => y = .bool false
  | 16 => y = .bool false
  | _ => True
theorem nxdueΦ_keep (b g off m c : Nat) (D now : Int) (A : List Lt) (n : Nat) (y : Value) (w w' : World) (h : nxdueΦ b g off m c D now A n y w) (hx : Ext [] w w') : nxdueΦ b g off m c D now A n y w' := by
  unfold nxdueΦ at h ⊢
  split at h <;> exact h
set_option maxRecDepth 100000 in
set_option maxHeartbeats 6400000 in
theorem nnext_zero {w : World} {b : Nat} {v : Value} {now seq : Int} {A : List Lt} (h : NetS w b v now seq A) (hA : A.length = 0) :
    Calls Try.prog 15 #[.pointer (some ⟨b, 0, none⟩)] w fun e w' => e = .returned (.tuple #[.agg Ms.zero.cells.toArray, .bool false]) ∧ Ext [] w w' := by
  obtain ⟨G, hG⟩ : ∃ x, x = w.heap.size := ⟨_, rfl⟩
  obtain ⟨W, hW⟩ : ∃ x, x = w.alloc (.cells Ms.zero.cells.toArray 36) := ⟨_, rfl⟩
  have hxW : Ext [] w W := by rw [hW]; exact (Ext.refl _ _).alloc _
  have hB : Blk W G 36 Ms.zero.cells := by rw [hW, hG]; exact Blk.new _ _ _
  have hGw : w.heap.size ≤ G := by omega
  have hNx : ∀ w', Ext [] W w' → NetS w' b v now seq A := fun w' hx => h.keep0 (hxW.then0 hx)
  have hA0 : (A.length : Int) = 0 := by omega
  go_enter Try.func15, Try.ntmps15
  go_wp2_with (refine wpList_zero_row rfl 36 rfl Ms.zero.cells al_zero ?_)
  rw [← hW, ← hG]
  clear hW hG h
  refine wp_region_stepsg [4, 5, 6, 7, 8, 9, 10, 11, 12, 13, 14, 15, 16, 17, 18, 19, 20] (nxzeroΦ b A) (by kernel_rfl) (by kernel_rfl) (fun k y w1 w2 h hx => nxzeroΦ_keep b A k y w1 w2 h hx) ?_ ?_
  · refine ⟨?f0, ?f1, ?f2, ?f3, ?f4, ?f5, ?f6, ?f7, ?f8, ?f9, ?f10, ?f11, ?f12, ?f13, ?f14, ?f15, ?f16, trivial⟩
    case f0 =>
      intro g1 w' hx hd
      refine op_run rfl ?_
      generalize hA : mkAct _ _ g1 = Ac
      have h0 : Ac.tmps[0]?.getD undef = .pointer (some ⟨b, 0, none⟩) := by rw [← hA]; exact mkAct_out2 _ _ _ _ _ rfl rfl
      refine step_val (v := .pointer (some ⟨b, 0, none⟩)) (w' := w') ?_ ⟨_, rfl, Ext.refl _ _, rfl⟩
      simp [execOp, h0, Result.andThen, go_sem]
    case f1 =>
      intro g1 w' hx hd
      refine op_run rfl ?_
      have e4 : g1 4 = .pointer (some ⟨b, 0, none⟩) := hd ⟨0, .data⟩ (by simp) rfl
      generalize hA : mkAct _ _ g1 = Ac
      have h4 : Ac.tmps[4]?.getD undef = .pointer (some ⟨b, 0, none⟩) := by rw [← hA, mkAct_in2 _ _ _ _ rfl rfl]; exact e4
      refine float_k (fun K hK => ?_)
      go_simp
      refine (nlen_any (hNx w' hx)).mono ?_
      rintro e w2 ⟨rfl, rfl⟩
      exact hK _ _ (Ext.refl _ _) rfl
    case f2 =>
      intro g1 w' hx hd
      refine op_run rfl ?_
      have e5 : g1 5 = .int .i64 (A.length : Int) := hd ⟨1, .data⟩ (by simp) rfl
      generalize hA : mkAct _ _ g1 = Ac
      have h5 : Ac.tmps[5]?.getD undef = .int .i64 (A.length : Int) := by rw [← hA, mkAct_in2 _ _ _ _ rfl rfl]; exact e5
      refine step_val (v := .bool true) (w' := w') ?_ ⟨_, rfl, Ext.refl _ _, rfl⟩
      simp [execOp, h5, Result.andThen, go_sem, hA0]
    case f3 =>
      intro g1 w' hx hd
      refine op_run rfl ?_
      have e6 : g1 6 = .bool true := hd ⟨2, .data⟩ (by simp) rfl
      generalize hA : mkAct _ _ g1 = Ac
      have h6 : Ac.tmps[6]?.getD undef = .bool true := by rw [← hA, mkAct_in2 _ _ _ _ rfl rfl]; exact e6
      refine step_val (v := .bool true) (w' := w') ?_ ⟨_, rfl, Ext.refl _ _, rfl⟩
      simp [execOp, h6, Result.andThen, go_sem]
    case f4 =>
      intro g1 w' hx hd
      have eg : g1 7 = .bool true := hd ⟨3, .guard⟩ (by simp) rfl
      exact op_no rfl rfl rfl rfl true eg (by decide) ⟨_, rfl, Ext.refl _ _, trivial⟩
    case f5 =>
      intro g1 w' hx hd
      have eg : g1 7 = .bool true := hd ⟨3, .guard⟩ (by simp) rfl
      exact op_no rfl rfl rfl rfl true eg (by decide) ⟨_, rfl, Ext.refl _ _, trivial⟩
    case f6 =>
      intro g1 w' hx hd
      have eg : g1 7 = .bool true := hd ⟨3, .guard⟩ (by simp) rfl
      exact op_no rfl rfl rfl rfl true eg (by decide) ⟨_, rfl, Ext.refl _ _, trivial⟩
    case f7 =>
      intro g1 w' hx hd
      have eg : g1 7 = .bool true := hd ⟨3, .guard⟩ (by simp) rfl
      exact op_no rfl rfl rfl rfl true eg (by decide) ⟨_, rfl, Ext.refl _ _, trivial⟩
    case f8 =>
      intro g1 w' hx hd
      have eg : g1 7 = .bool true := hd ⟨3, .guard⟩ (by simp) rfl
      exact op_no rfl rfl rfl rfl true eg (by decide) ⟨_, rfl, Ext.refl _ _, trivial⟩
    case f9 =>
      intro g1 w' hx hd
      have eg : g1 7 = .bool true := hd ⟨3, .guard⟩ (by simp) rfl
      exact op_no rfl rfl rfl rfl true eg (by decide) ⟨_, rfl, Ext.refl _ _, trivial⟩
    case f10 =>
      intro g1 w' hx hd
      have eg : g1 7 = .bool true := hd ⟨3, .guard⟩ (by simp) rfl
      exact op_no rfl rfl rfl rfl true eg (by decide) ⟨_, rfl, Ext.refl _ _, trivial⟩
    case f11 =>
      intro g1 w' hx hd
      have eg : g1 7 = .bool true := hd ⟨3, .guard⟩ (by simp) rfl
      exact op_no rfl rfl rfl rfl true eg (by decide) ⟨_, rfl, Ext.refl _ _, trivial⟩
    case f12 =>
      intro g1 w' hx hd
      have eg : g1 7 = .bool true := hd ⟨3, .guard⟩ (by simp) rfl
      exact op_no rfl rfl rfl rfl true eg (by decide) ⟨_, rfl, Ext.refl _ _, trivial⟩
    case f13 =>
      intro g1 w' hx hd
      have eg : g1 7 = .bool true := hd ⟨3, .guard⟩ (by simp) rfl
      exact op_no rfl rfl rfl rfl true eg (by decide) ⟨_, rfl, Ext.refl _ _, trivial⟩
    case f14 =>
      intro g1 w' hx hd
      have eg : g1 7 = .bool true := hd ⟨3, .guard⟩ (by simp) rfl
      exact op_no rfl rfl rfl rfl true eg (by decide) ⟨_, rfl, Ext.refl _ _, trivial⟩
    case f15 =>
      intro g1 w' hx hd
      have eg : g1 7 = .bool true := hd ⟨3, .guard⟩ (by simp) rfl
      exact op_no rfl rfl rfl rfl true eg (by decide) ⟨_, rfl, Ext.refl _ _, trivial⟩
    case f16 =>
      intro g1 w' hx hd
      refine op_run rfl ?_
      have e7 : g1 7 = .bool true := hd ⟨3, .data⟩ (by simp) rfl
      generalize hA : mkAct _ _ g1 = Ac
      have h7 : Ac.tmps[7]?.getD undef = .bool true := by rw [← hA, mkAct_in2 _ _ _ _ rfl rfl]; exact e7
      refine step_val (v := .bool true) (w' := w') ?_ ⟨_, rfl, Ext.refl _ _, rfl⟩
      simp [execOp, h7, Result.andThen, go_sem]
  · intro g1 w5 hx5 hd
    have e20 : g1 20 = .bool true := hd 16 (by decide)
    unfold mkAct
    simp only [List.zipIdx_cons, List.zipIdx_nil, List.map_cons, List.map_nil, Nat.zero_add, Nat.reduceAdd, List.contains_cons, List.contains_nil, Nat.reduceBEq, Bool.or_false, Bool.or_true, ↓reduceIte, Bool.false_eq_true]
    rw [e20]
    clear hd e20
    have hB5 := hB.keep hx5 (by simp)
    go_wp2_with (refine wpList_store_mid rfl 36 _ _ rfl G 0 Ms.zero.cells.toArray rfl rfl hB5.there (by kernel_rfl) (mall _) ?_)
    refine bodyPost_ret (results_row rfl _ _ G Ms.zero.cells _ rfl (World.rangeAt_setCells_same _ _ _ _ hB5.there) Try.underlying36 rfl (by kernel_rfl)) rfl ?_
    exact ⟨rfl, (hxW.then0 hx5).setCells (.inr hGw) _ _⟩
set_option maxRecDepth 100000 in
set_option maxHeartbeats 6400000 in
theorem nnext_late {w : World} {b : Nat} {v : Value} {now seq : Int} {A : List Lt} (h : NetS w b v now seq A) (hA : 0 < A.length) (hA2 : A.length ≤ 100000) (hlate : ∀ y ∈ A, now < y.due) :
    Calls Try.prog 15 #[.pointer (some ⟨b, 0, none⟩)] w fun e w' => e = .returned (.tuple #[.agg Ms.zero.cells.toArray, .bool false]) ∧ Ext [] w w' := by
  obtain ⟨L, hN, hH, hP⟩ := h
  have hl0 : 0 < L.length := by rw [hP.length_eq]; exact hA
  have hl1 : L.length ≤ 100000 := by rw [hP.length_eq]; exact hA2
  obtain ⟨g, off, c, rfl⟩ := hN.some hl0
  obtain ⟨x, hx0⟩ : ∃ x, L[0]? = some x := ⟨_, List.getElem?_eq_getElem hl0⟩
  obtain ⟨n, hn⟩ : ∃ n, n = L.length := ⟨_, rfl⟩
  rw [← hn] at hN
  have hin0 : 0 < n := by omega
  have hin1 : (0 : Int) < (n : Int) := by omega
  obtain ⟨G, hG⟩ : ∃ x, x = w.heap.size := ⟨_, rfl⟩
  obtain ⟨W, hW⟩ : ∃ x, x = w.alloc (.cells Ms.zero.cells.toArray 36) := ⟨_, rfl⟩
  have hxW : Ext [] w W := by rw [hW]; exact (Ext.refl _ _).alloc _
  have hB : Blk W G 36 Ms.zero.cells := by rw [hW, hG]; exact Blk.new _ _ _
  have hGw : w.heap.size ≤ G := by omega
  have hNW := hN.keep0 hxW
  have hNx : ∀ w', Ext [] W w' → NetS w' b (.slice (some ⟨g, off, none⟩) n c) now seq A := fun w' hx => ⟨L, hNW.keep0 hx, hH, hP⟩
  have c0 : ∀ w', Ext [] W w' → w'.cell? ⟨b, 0, none⟩ = some (.slice (some ⟨g, off, none⟩) n c) := fun w' hx => (hNW.keep0 hx).c.1
  have c1 : ∀ w', Ext [] W w' → w'.cell? ⟨b, 1, none⟩ = some (.int .i64 now) := fun w' hx => (hNW.keep0 hx).c.2.1
  obtain ⟨D, hDx⟩ : ∃ D, D = x.due := ⟨_, rfl⟩
  have cd : ∀ w', Ext [] W w' → w'.cell? ⟨g, off, none⟩ = some (.int .i64 D) := by
    intro w' hx
    have ho := (hNW.keep0 hx).own
    rw [← hn] at ho
    have hr := (ho.range 0 hl0).1
    rw [List.getElem?_eq_getElem hl0] at hx0
    rw [Option.some.inj hx0] at hr
    have := hr 0 _ rfl
    simpa [Lt.cells, hDx] using this
  have hAn : ¬ A = [] := by intro h; rw [h] at hA; simp at hA
  have hDn : now < D := by rw [hDx]; exact hlate x (hP.mem_iff.1 (List.mem_of_getElem? hx0))
  go_enter Try.func15, Try.ntmps15
  go_wp2_with (refine wpList_zero_row rfl 36 rfl Ms.zero.cells al_zero ?_)
  rw [← hW, ← hG]
  clear hW hG hN hNW
  refine wp_region_stepsg [4, 5, 6, 7, 8, 9, 10, 11, 12, 13, 14, 15, 16, 17, 18, 19, 20] (nxlateΦ b g off n c D now A) (by kernel_rfl) (by kernel_rfl) (fun k y w1 w2 h hx => nxlateΦ_keep b g off n c D now A k y w1 w2 h hx) ?_ ?_
  · refine ⟨?f0, ?f1, ?f2, ?f3, ?f4, ?f5, ?f6, ?f7, ?f8, ?f9, ?f10, ?f11, ?f12, ?f13, ?f14, ?f15, ?f16, trivial⟩
    case f0 =>
      intro g1 w' hx hd
      refine op_run rfl ?_
      generalize hA : mkAct _ _ g1 = Ac
      have h0 : Ac.tmps[0]?.getD undef = .pointer (some ⟨b, 0, none⟩) := by rw [← hA]; exact mkAct_out2 _ _ _ _ _ rfl rfl
      refine step_val (v := .pointer (some ⟨b, 0, none⟩)) (w' := w') ?_ ⟨_, rfl, Ext.refl _ _, rfl⟩
      simp [execOp, h0, Result.andThen, go_sem]
    case f1 =>
      intro g1 w' hx hd
      refine op_run rfl ?_
      have e4 : g1 4 = .pointer (some ⟨b, 0, none⟩) := hd ⟨0, .data⟩ (by simp) rfl
      generalize hA : mkAct _ _ g1 = Ac
      have h4 : Ac.tmps[4]?.getD undef = .pointer (some ⟨b, 0, none⟩) := by rw [← hA, mkAct_in2 _ _ _ _ rfl rfl]; exact e4
      refine float_k (fun K hK => ?_)
      go_simp
      refine (nlen_any (hNx w' hx)).mono ?_
      rintro e w2 ⟨rfl, rfl⟩
      exact hK _ _ (Ext.refl _ _) rfl
    case f2 =>
      intro g1 w' hx hd
      refine op_run rfl ?_
      have e5 : g1 5 = .int .i64 (A.length : Int) := hd ⟨1, .data⟩ (by simp) rfl
      generalize hA : mkAct _ _ g1 = Ac
      have h5 : Ac.tmps[5]?.getD undef = .int .i64 (A.length : Int) := by rw [← hA, mkAct_in2 _ _ _ _ rfl rfl]; exact e5
      refine step_val (v := .bool false) (w' := w') ?_ ⟨_, rfl, Ext.refl _ _, rfl⟩
      simp [execOp, h5, Result.andThen, go_sem, hAn]
    case f3 =>
      intro g1 w' hx hd
      refine op_run rfl ?_
      have e6 : g1 6 = .bool false := hd ⟨2, .data⟩ (by simp) rfl
      generalize hA : mkAct _ _ g1 = Ac
      have h6 : Ac.tmps[6]?.getD undef = .bool false := by rw [← hA, mkAct_in2 _ _ _ _ rfl rfl]; exact e6
      refine step_val (v := .bool false) (w' := w') ?_ ⟨_, rfl, Ext.refl _ _, rfl⟩
      simp [execOp, h6, Result.andThen, go_sem]
    case f4 =>
      intro g1 w' hx hd
      have eg : g1 7 = .bool false := hd ⟨3, .guard⟩ (by simp) rfl
      refine op_yes rfl rfl rfl rfl eg ?_
      generalize hA : mkAct _ _ g1 = Ac
      have h0 : Ac.tmps[0]?.getD undef = .pointer (some ⟨b, 0, none⟩) := by rw [← hA]; exact mkAct_out2 _ _ _ _ _ rfl rfl
      refine step_val (v := .pointer (some ⟨b, 0, none⟩)) (w' := w') ?_ ⟨_, rfl, Ext.refl _ _, rfl⟩
      simp [execOp, h0, Result.andThen, go_sem]
    case f5 =>
      intro g1 w' hx hd
      have eg : g1 7 = .bool false := hd ⟨3, .guard⟩ (by simp) rfl
      refine op_yes rfl rfl rfl rfl eg ?_
      have e8 : g1 8 = .pointer (some ⟨b, 0, none⟩) := hd ⟨4, .data⟩ (by simp) rfl
      generalize hA : mkAct _ _ g1 = Ac
      have h8 : Ac.tmps[8]?.getD undef = .pointer (some ⟨b, 0, none⟩) := by rw [← hA, mkAct_in2 _ _ _ _ rfl rfl]; exact e8
      refine step_val (v := .pointer (some ⟨b, 0, none⟩)) (w' := w') ?_ ⟨_, rfl, Ext.refl _ _, rfl⟩
      simp [execOp, h8, Result.andThen, go_sem]
    case f6 =>
      intro g1 w' hx hd
      have eg : g1 7 = .bool false := hd ⟨3, .guard⟩ (by simp) rfl
      refine op_yes rfl rfl rfl rfl eg ?_
      have e9 : g1 9 = .pointer (some ⟨b, 0, none⟩) := hd ⟨5, .data⟩ (by simp) rfl
      generalize hA : mkAct _ _ g1 = Ac
      have h9 : Ac.tmps[9]?.getD undef = .pointer (some ⟨b, 0, none⟩) := by rw [← hA, mkAct_in2 _ _ _ _ rfl rfl]; exact e9
      refine step_val (v := .pointer (some ⟨b, 0, none⟩)) (w' := w') ?_ ⟨_, rfl, Ext.refl _ _, rfl⟩
      simp [execOp, h9, Result.andThen, go_sem]
    case f7 =>
      intro g1 w' hx hd
      have eg : g1 7 = .bool false := hd ⟨3, .guard⟩ (by simp) rfl
      refine op_yes rfl rfl rfl rfl eg ?_
      have e10 : g1 10 = .pointer (some ⟨b, 0, none⟩) := hd ⟨6, .data⟩ (by simp) rfl
      generalize hA : mkAct _ _ g1 = Ac
      have h10 : Ac.tmps[10]?.getD undef = .pointer (some ⟨b, 0, none⟩) := by rw [← hA, mkAct_in2 _ _ _ _ rfl rfl]; exact e10
      have cX := c0 w' hx
      refine step_val (v := .slice (some ⟨g, off, none⟩) n c) (w' := w') ?_ ⟨_, rfl, Ext.refl _ _, rfl⟩
      simp [execOp, h10, cX, Result.andThen, go_sem]
    case f8 =>
      intro g1 w' hx hd
      have eg : g1 7 = .bool false := hd ⟨3, .guard⟩ (by simp) rfl
      refine op_yes rfl rfl rfl rfl eg ?_
      have e11 : g1 11 = .slice (some ⟨g, off, none⟩) n c := hd ⟨7, .data⟩ (by simp) rfl
      generalize hA : mkAct _ _ g1 = Ac
      have h11 : Ac.tmps[11]?.getD undef = .slice (some ⟨g, off, none⟩) n c := by rw [← hA, mkAct_in2 _ _ _ _ rfl rfl]; exact e11
      refine step_val (v := .pointer (some ⟨g, off, none⟩)) (w' := w') ?_ ⟨_, rfl, Ext.refl _ _, rfl⟩
      simp [execOp, h11, Result.andThen, go_sem, hin0]
    case f9 =>
      intro g1 w' hx hd
      have eg : g1 7 = .bool false := hd ⟨3, .guard⟩ (by simp) rfl
      refine op_yes rfl rfl rfl rfl eg ?_
      have e12 : g1 12 = .pointer (some ⟨g, off, none⟩) := hd ⟨8, .data⟩ (by simp) rfl
      generalize hA : mkAct _ _ g1 = Ac
      have h12 : Ac.tmps[12]?.getD undef = .pointer (some ⟨g, off, none⟩) := by rw [← hA, mkAct_in2 _ _ _ _ rfl rfl]; exact e12
      refine step_val (v := .pointer (some ⟨g, off, none⟩)) (w' := w') ?_ ⟨_, rfl, Ext.refl _ _, rfl⟩
      simp [execOp, h12, Result.andThen, go_sem]
    case f10 =>
      intro g1 w' hx hd
      have eg : g1 7 = .bool false := hd ⟨3, .guard⟩ (by simp) rfl
      refine op_yes rfl rfl rfl rfl eg ?_
      have e13 : g1 13 = .pointer (some ⟨g, off, none⟩) := hd ⟨9, .data⟩ (by simp) rfl
      generalize hA : mkAct _ _ g1 = Ac
      have h13 : Ac.tmps[13]?.getD undef = .pointer (some ⟨g, off, none⟩) := by rw [← hA, mkAct_in2 _ _ _ _ rfl rfl]; exact e13
      have cX := cd w' hx
      refine step_val (v := .int .i64 D) (w' := w') ?_ ⟨_, rfl, Ext.refl _ _, rfl⟩
      simp [execOp, h13, cX, Result.andThen, go_sem]
    case f11 =>
      intro g1 w' hx hd
      have eg : g1 7 = .bool false := hd ⟨3, .guard⟩ (by simp) rfl
      refine op_yes rfl rfl rfl rfl eg ?_
      generalize hA : mkAct _ _ g1 = Ac
      have h0 : Ac.tmps[0]?.getD undef = .pointer (some ⟨b, 0, none⟩) := by rw [← hA]; exact mkAct_out2 _ _ _ _ _ rfl rfl
      refine step_val (v := .pointer (some ⟨b, 0, none⟩)) (w' := w') ?_ ⟨_, rfl, Ext.refl _ _, rfl⟩
      simp [execOp, h0, Result.andThen, go_sem]
    case f12 =>
      intro g1 w' hx hd
      have eg : g1 7 = .bool false := hd ⟨3, .guard⟩ (by simp) rfl
      refine op_yes rfl rfl rfl rfl eg ?_
      have e15 : g1 15 = .pointer (some ⟨b, 0, none⟩) := hd ⟨11, .data⟩ (by simp) rfl
      generalize hA : mkAct _ _ g1 = Ac
      have h15 : Ac.tmps[15]?.getD undef = .pointer (some ⟨b, 0, none⟩) := by rw [← hA, mkAct_in2 _ _ _ _ rfl rfl]; exact e15
      refine step_val (v := .pointer (some ⟨b, 0, none⟩)) (w' := w') ?_ ⟨_, rfl, Ext.refl _ _, rfl⟩
      simp [execOp, h15, Result.andThen, go_sem]
    case f13 =>
      intro g1 w' hx hd
      have eg : g1 7 = .bool false := hd ⟨3, .guard⟩ (by simp) rfl
      refine op_yes rfl rfl rfl rfl eg ?_
      have e16 : g1 16 = .pointer (some ⟨b, 0, none⟩) := hd ⟨12, .data⟩ (by simp) rfl
      generalize hA : mkAct _ _ g1 = Ac
      have h16 : Ac.tmps[16]?.getD undef = .pointer (some ⟨b, 0, none⟩) := by rw [← hA, mkAct_in2 _ _ _ _ rfl rfl]; exact e16
      refine step_val (v := .pointer (some ⟨b, 1, none⟩)) (w' := w') ?_ ⟨_, rfl, Ext.refl _ _, rfl⟩
      simp [execOp, h16, Result.andThen, go_sem]
    case f14 =>
      intro g1 w' hx hd
      have eg : g1 7 = .bool false := hd ⟨3, .guard⟩ (by simp) rfl
      refine op_yes rfl rfl rfl rfl eg ?_
      have e17 : g1 17 = .pointer (some ⟨b, 1, none⟩) := hd ⟨13, .data⟩ (by simp) rfl
      generalize hA : mkAct _ _ g1 = Ac
      have h17 : Ac.tmps[17]?.getD undef = .pointer (some ⟨b, 1, none⟩) := by rw [← hA, mkAct_in2 _ _ _ _ rfl rfl]; exact e17
      have cX := c1 w' hx
      refine step_val (v := .int .i64 now) (w' := w') ?_ ⟨_, rfl, Ext.refl _ _, rfl⟩
      simp [execOp, h17, cX, Result.andThen, go_sem]
    case f15 =>
      intro g1 w' hx hd
      have eg : g1 7 = .bool false := hd ⟨3, .guard⟩ (by simp) rfl
      refine op_yes rfl rfl rfl rfl eg ?_
      have e14 : g1 14 = .int .i64 D := hd ⟨10, .data⟩ (by simp) rfl
      have e18 : g1 18 = .int .i64 now := hd ⟨14, .data⟩ (by simp) rfl
      generalize hA : mkAct _ _ g1 = Ac
      have h14 : Ac.tmps[14]?.getD undef = .int .i64 D := by rw [← hA, mkAct_in2 _ _ _ _ rfl rfl]; exact e14
      have h18 : Ac.tmps[18]?.getD undef = .int .i64 now := by rw [← hA, mkAct_in2 _ _ _ _ rfl rfl]; exact e18
      refine step_val (v := .bool true) (w' := w') ?_ ⟨_, rfl, Ext.refl _ _, rfl⟩
      simp [execOp, h14, h18, Result.andThen, go_sem, hDn]
    case f16 =>
      intro g1 w' hx hd
      refine op_run rfl ?_
      have e7 : g1 7 = .bool false := hd ⟨3, .data⟩ (by simp) rfl
      have e19 : g1 19 = .bool true := hd ⟨15, .data⟩ (by simp) rfl
      generalize hA : mkAct _ _ g1 = Ac
      have h7 : Ac.tmps[7]?.getD undef = .bool false := by rw [← hA, mkAct_in2 _ _ _ _ rfl rfl]; exact e7
      have h19 : Ac.tmps[19]?.getD undef = .bool true := by rw [← hA, mkAct_in2 _ _ _ _ rfl rfl]; exact e19
      refine step_val (v := .bool true) (w' := w') ?_ ⟨_, rfl, Ext.refl _ _, rfl⟩
      simp [execOp, h7, h19, Result.andThen, go_sem]
  · intro g1 w5 hx5 hd
    have e20 : g1 20 = .bool true := hd 16 (by decide)
    unfold mkAct
    simp only [List.zipIdx_cons, List.zipIdx_nil, List.map_cons, List.map_nil, Nat.zero_add, Nat.reduceAdd, List.contains_cons, List.contains_nil, Nat.reduceBEq, Bool.or_false, Bool.or_true, ↓reduceIte, Bool.false_eq_true]
    rw [e20]
    clear hd e20
    have hB5 := hB.keep hx5 (by simp)
    go_wp2_with (refine wpList_store_mid rfl 36 _ _ rfl G 0 Ms.zero.cells.toArray rfl rfl hB5.there (by kernel_rfl) (mall _) ?_)
    refine bodyPost_ret (results_row rfl _ _ G Ms.zero.cells _ rfl (World.rangeAt_setCells_same _ _ _ _ hB5.there) Try.underlying36 rfl (by kernel_rfl)) rfl ?_
    exact ⟨rfl, (hxW.then0 hx5).setCells (.inr hGw) _ _⟩
set_option maxRecDepth 100000 in
set_option maxHeartbeats 6400000 in
theorem nnext_due {w : World} {b : Nat} {v : Value} {now seq : Int} {A : List Lt} (h : NetS w b v now seq A) (hA2 : A.length ≤ 100000) (y : Lt) (hy : y ∈ A) (hyd : y.due ≤ now) :
    Calls Try.prog 15 #[.pointer (some ⟨b, 0, none⟩)] w fun e w' => ∃ x A', A.Perm (A' ++ [x]) ∧ (∀ y ∈ A, ltL y x = false) ∧ x.due ≤ now ∧ e = .returned (.tuple #[.agg x.m.cells.toArray, .bool true]) ∧ NetR w w' b v now seq A' := by
  have hA : 0 < A.length := List.length_pos_of_mem hy
  obtain ⟨L, hN, hH, hP⟩ := h
  have hl0 : 0 < L.length := by rw [hP.length_eq]; exact hA
  have hl1 : L.length ≤ 100000 := by rw [hP.length_eq]; exact hA2
  obtain ⟨g, off, c, rfl⟩ := hN.some hl0
  obtain ⟨x, hx0⟩ : ∃ x, L[0]? = some x := ⟨_, List.getElem?_eq_getElem hl0⟩
  obtain ⟨n, hn⟩ : ∃ n, n = L.length := ⟨_, rfl⟩
  rw [← hn] at hN
  have hin0 : 0 < n := by omega
  have hin1 : (0 : Int) < (n : Int) := by omega
  obtain ⟨G, hG⟩ : ∃ x, x = w.heap.size := ⟨_, rfl⟩
  obtain ⟨W, hW⟩ : ∃ x, x = w.alloc (.cells Ms.zero.cells.toArray 36) := ⟨_, rfl⟩
  have hxW : Ext [] w W := by rw [hW]; exact (Ext.refl _ _).alloc _
  have hB : Blk W G 36 Ms.zero.cells := by rw [hW, hG]; exact Blk.new _ _ _
  have hGw : w.heap.size ≤ G := by omega
  have hNW := hN.keep0 hxW
  have hNx : ∀ w', Ext [] W w' → NetS w' b (.slice (some ⟨g, off, none⟩) n c) now seq A := fun w' hx => ⟨L, hNW.keep0 hx, hH, hP⟩
  have c0 : ∀ w', Ext [] W w' → w'.cell? ⟨b, 0, none⟩ = some (.slice (some ⟨g, off, none⟩) n c) := fun w' hx => (hNW.keep0 hx).c.1
  have c1 : ∀ w', Ext [] W w' → w'.cell? ⟨b, 1, none⟩ = some (.int .i64 now) := fun w' hx => (hNW.keep0 hx).c.2.1
  obtain ⟨D, hDx⟩ : ∃ D, D = x.due := ⟨_, rfl⟩
  have cd : ∀ w', Ext [] W w' → w'.cell? ⟨g, off, none⟩ = some (.int .i64 D) := by
    intro w' hx
    have ho := (hNW.keep0 hx).own
    rw [← hn] at ho
    have hr := (ho.range 0 hl0).1
    rw [List.getElem?_eq_getElem hl0] at hx0
    rw [Option.some.inj hx0] at hr
    have := hr 0 _ rfl
    simpa [Lt.cells, hDx] using this
  have hAn : ¬ A = [] := by intro h; rw [h] at hA; simp at hA
  have hmin : ∀ y ∈ A, ltL y x = false := by
    intro y hy
    obtain ⟨k, hk, hky⟩ := List.getElem_of_mem (hP.mem_iff.2 hy)
    exact heap_root ltL ltL_ord hH k hk x y hx0 (by rw [List.getElem?_eq_getElem hk, hky])
  have hDn : ¬ now < D := by
    have := hmin y hy
    rw [hDx]
    unfold ltL at this
    split at this <;> simp at this <;> omega
  have HD : Hid (D = x.due) := hDx
  have HP := Hid.of hP
  have HM := Hid.of hmin
  have HX0 := Hid.of hx0
  have ha := as_let
  have hf := fld_m
  have HE : Hid (n = L.length) := hn
  go_enter Try.func15, Try.ntmps15
  go_wp2_with (refine wpList_zero_row rfl 36 rfl Ms.zero.cells al_zero ?_)
  rw [← hW, ← hG]
  clear hW hG hDx hmin hP hx0 hn
  refine wp_region_stepsg [4, 5, 6, 7, 8, 9, 10, 11, 12, 13, 14, 15, 16, 17, 18, 19, 20] (nxdueΦ b g off n c D now A) (by kernel_rfl) (by kernel_rfl) (fun k y w1 w2 h hx => nxdueΦ_keep b g off n c D now A k y w1 w2 h hx) ?_ ?_
  · refine ⟨?f0, ?f1, ?f2, ?f3, ?f4, ?f5, ?f6, ?f7, ?f8, ?f9, ?f10, ?f11, ?f12, ?f13, ?f14, ?f15, ?f16, trivial⟩
    case f0 =>
      intro g1 w' hx hd
      refine op_run rfl ?_
      generalize hA : mkAct _ _ g1 = Ac
      have h0 : Ac.tmps[0]?.getD undef = .pointer (some ⟨b, 0, none⟩) := by rw [← hA]; exact mkAct_out2 _ _ _ _ _ rfl rfl
      refine step_val (v := .pointer (some ⟨b, 0, none⟩)) (w' := w') ?_ ⟨_, rfl, Ext.refl _ _, rfl⟩
      simp [execOp, h0, Result.andThen, go_sem]
    case f1 =>
      intro g1 w' hx hd
      refine op_run rfl ?_
      have e4 : g1 4 = .pointer (some ⟨b, 0, none⟩) := hd ⟨0, .data⟩ (by simp) rfl
      generalize hA : mkAct _ _ g1 = Ac
      have h4 : Ac.tmps[4]?.getD undef = .pointer (some ⟨b, 0, none⟩) := by rw [← hA, mkAct_in2 _ _ _ _ rfl rfl]; exact e4
      refine float_k (fun K hK => ?_)
      go_simp
      refine (nlen_any (hNx w' hx)).mono ?_
      rintro e w2 ⟨rfl, rfl⟩
      exact hK _ _ (Ext.refl _ _) rfl
    case f2 =>
      intro g1 w' hx hd
      refine op_run rfl ?_
      have e5 : g1 5 = .int .i64 (A.length : Int) := hd ⟨1, .data⟩ (by simp) rfl
      generalize hA : mkAct _ _ g1 = Ac
      have h5 : Ac.tmps[5]?.getD undef = .int .i64 (A.length : Int) := by rw [← hA, mkAct_in2 _ _ _ _ rfl rfl]; exact e5
      refine step_val (v := .bool false) (w' := w') ?_ ⟨_, rfl, Ext.refl _ _, rfl⟩
      simp [execOp, h5, Result.andThen, go_sem, hAn]
    case f3 =>
      intro g1 w' hx hd
      refine op_run rfl ?_
      have e6 : g1 6 = .bool false := hd ⟨2, .data⟩ (by simp) rfl
      generalize hA : mkAct _ _ g1 = Ac
      have h6 : Ac.tmps[6]?.getD undef = .bool false := by rw [← hA, mkAct_in2 _ _ _ _ rfl rfl]; exact e6
      refine step_val (v := .bool false) (w' := w') ?_ ⟨_, rfl, Ext.refl _ _, rfl⟩
      simp [execOp, h6, Result.andThen, go_sem]
    case f4 =>
      intro g1 w' hx hd
      have eg : g1 7 = .bool false := hd ⟨3, .guard⟩ (by simp) rfl
      refine op_yes rfl rfl rfl rfl eg ?_
      generalize hA : mkAct _ _ g1 = Ac
      have h0 : Ac.tmps[0]?.getD undef = .pointer (some ⟨b, 0, none⟩) := by rw [← hA]; exact mkAct_out2 _ _ _ _ _ rfl rfl
      refine step_val (v := .pointer (some ⟨b, 0, none⟩)) (w' := w') ?_ ⟨_, rfl, Ext.refl _ _, rfl⟩
      simp [execOp, h0, Result.andThen, go_sem]
    case f5 =>
      intro g1 w' hx hd
      have eg : g1 7 = .bool false := hd ⟨3, .guard⟩ (by simp) rfl
      refine op_yes rfl rfl rfl rfl eg ?_
      have e8 : g1 8 = .pointer (some ⟨b, 0, none⟩) := hd ⟨4, .data⟩ (by simp) rfl
      generalize hA : mkAct _ _ g1 = Ac
      have h8 : Ac.tmps[8]?.getD undef = .pointer (some ⟨b, 0, none⟩) := by rw [← hA, mkAct_in2 _ _ _ _ rfl rfl]; exact e8
      refine step_val (v := .pointer (some ⟨b, 0, none⟩)) (w' := w') ?_ ⟨_, rfl, Ext.refl _ _, rfl⟩
      simp [execOp, h8, Result.andThen, go_sem]
    case f6 =>
      intro g1 w' hx hd
      have eg : g1 7 = .bool false := hd ⟨3, .guard⟩ (by simp) rfl
      refine op_yes rfl rfl rfl rfl eg ?_
      have e9 : g1 9 = .pointer (some ⟨b, 0, none⟩) := hd ⟨5, .data⟩ (by simp) rfl
      generalize hA : mkAct _ _ g1 = Ac
      have h9 : Ac.tmps[9]?.getD undef = .pointer (some ⟨b, 0, none⟩) := by rw [← hA, mkAct_in2 _ _ _ _ rfl rfl]; exact e9
      refine step_val (v := .pointer (some ⟨b, 0, none⟩)) (w' := w') ?_ ⟨_, rfl, Ext.refl _ _, rfl⟩
      simp [execOp, h9, Result.andThen, go_sem]
    case f7 =>
      intro g1 w' hx hd
      have eg : g1 7 = .bool false := hd ⟨3, .guard⟩ (by simp) rfl
      refine op_yes rfl rfl rfl rfl eg ?_
      have e10 : g1 10 = .pointer (some ⟨b, 0, none⟩) := hd ⟨6, .data⟩ (by simp) rfl
      generalize hA : mkAct _ _ g1 = Ac
      have h10 : Ac.tmps[10]?.getD undef = .pointer (some ⟨b, 0, none⟩) := by rw [← hA, mkAct_in2 _ _ _ _ rfl rfl]; exact e10
      have cX := c0 w' hx
      refine step_val (v := .slice (some ⟨g, off, none⟩) n c) (w' := w') ?_ ⟨_, rfl, Ext.refl _ _, rfl⟩
      simp [execOp, h10, cX, Result.andThen, go_sem]
    case f8 =>
      intro g1 w' hx hd
      have eg : g1 7 = .bool false := hd ⟨3, .guard⟩ (by simp) rfl
      refine op_yes rfl rfl rfl rfl eg ?_
      have e11 : g1 11 = .slice (some ⟨g, off, none⟩) n c := hd ⟨7, .data⟩ (by simp) rfl
      generalize hA : mkAct _ _ g1 = Ac
      have h11 : Ac.tmps[11]?.getD undef = .slice (some ⟨g, off, none⟩) n c := by rw [← hA, mkAct_in2 _ _ _ _ rfl rfl]; exact e11
      refine step_val (v := .pointer (some ⟨g, off, none⟩)) (w' := w') ?_ ⟨_, rfl, Ext.refl _ _, rfl⟩
      simp [execOp, h11, Result.andThen, go_sem, hin0]
    case f9 =>
      intro g1 w' hx hd
      have eg : g1 7 = .bool false := hd ⟨3, .guard⟩ (by simp) rfl
      refine op_yes rfl rfl rfl rfl eg ?_
      have e12 : g1 12 = .pointer (some ⟨g, off, none⟩) := hd ⟨8, .data⟩ (by simp) rfl
      generalize hA : mkAct _ _ g1 = Ac
      have h12 : Ac.tmps[12]?.getD undef = .pointer (some ⟨g, off, none⟩) := by rw [← hA, mkAct_in2 _ _ _ _ rfl rfl]; exact e12
      refine step_val (v := .pointer (some ⟨g, off, none⟩)) (w' := w') ?_ ⟨_, rfl, Ext.refl _ _, rfl⟩
      simp [execOp, h12, Result.andThen, go_sem]
    case f10 =>
      intro g1 w' hx hd
      have eg : g1 7 = .bool false := hd ⟨3, .guard⟩ (by simp) rfl
      refine op_yes rfl rfl rfl rfl eg ?_
      have e13 : g1 13 = .pointer (some ⟨g, off, none⟩) := hd ⟨9, .data⟩ (by simp) rfl
      generalize hA : mkAct _ _ g1 = Ac
      have h13 : Ac.tmps[13]?.getD undef = .pointer (some ⟨g, off, none⟩) := by rw [← hA, mkAct_in2 _ _ _ _ rfl rfl]; exact e13
      have cX := cd w' hx
      refine step_val (v := .int .i64 D) (w' := w') ?_ ⟨_, rfl, Ext.refl _ _, rfl⟩
      simp [execOp, h13, cX, Result.andThen, go_sem]
    case f11 =>
      intro g1 w' hx hd
      have eg : g1 7 = .bool false := hd ⟨3, .guard⟩ (by simp) rfl
      refine op_yes rfl rfl rfl rfl eg ?_
      generalize hA : mkAct _ _ g1 = Ac
      have h0 : Ac.tmps[0]?.getD undef = .pointer (some ⟨b, 0, none⟩) := by rw [← hA]; exact mkAct_out2 _ _ _ _ _ rfl rfl
      refine step_val (v := .pointer (some ⟨b, 0, none⟩)) (w' := w') ?_ ⟨_, rfl, Ext.refl _ _, rfl⟩
      simp [execOp, h0, Result.andThen, go_sem]
    case f12 =>
      intro g1 w' hx hd
      have eg : g1 7 = .bool false := hd ⟨3, .guard⟩ (by simp) rfl
      refine op_yes rfl rfl rfl rfl eg ?_
      have e15 : g1 15 = .pointer (some ⟨b, 0, none⟩) := hd ⟨11, .data⟩ (by simp) rfl
      generalize hA : mkAct _ _ g1 = Ac
      have h15 : Ac.tmps[15]?.getD undef = .pointer (some ⟨b, 0, none⟩) := by rw [← hA, mkAct_in2 _ _ _ _ rfl rfl]; exact e15
      refine step_val (v := .pointer (some ⟨b, 0, none⟩)) (w' := w') ?_ ⟨_, rfl, Ext.refl _ _, rfl⟩
      simp [execOp, h15, Result.andThen, go_sem]
    case f13 =>
      intro g1 w' hx hd
      have eg : g1 7 = .bool false := hd ⟨3, .guard⟩ (by simp) rfl
      refine op_yes rfl rfl rfl rfl eg ?_
      have e16 : g1 16 = .pointer (some ⟨b, 0, none⟩) := hd ⟨12, .data⟩ (by simp) rfl
      generalize hA : mkAct _ _ g1 = Ac
      have h16 : Ac.tmps[16]?.getD undef = .pointer (some ⟨b, 0, none⟩) := by rw [← hA, mkAct_in2 _ _ _ _ rfl rfl]; exact e16
      refine step_val (v := .pointer (some ⟨b, 1, none⟩)) (w' := w') ?_ ⟨_, rfl, Ext.refl _ _, rfl⟩
      simp [execOp, h16, Result.andThen, go_sem]
    case f14 =>
      intro g1 w' hx hd
      have eg : g1 7 = .bool false := hd ⟨3, .guard⟩ (by simp) rfl
      refine op_yes rfl rfl rfl rfl eg ?_
      have e17 : g1 17 = .pointer (some ⟨b, 1, none⟩) := hd ⟨13, .data⟩ (by simp) rfl
      generalize hA : mkAct _ _ g1 = Ac
      have h17 : Ac.tmps[17]?.getD undef = .pointer (some ⟨b, 1, none⟩) := by rw [← hA, mkAct_in2 _ _ _ _ rfl rfl]; exact e17
      have cX := c1 w' hx
      refine step_val (v := .int .i64 now) (w' := w') ?_ ⟨_, rfl, Ext.refl _ _, rfl⟩
      simp [execOp, h17, cX, Result.andThen, go_sem]
    case f15 =>
      intro g1 w' hx hd
      have eg : g1 7 = .bool false := hd ⟨3, .guard⟩ (by simp) rfl
      refine op_yes rfl rfl rfl rfl eg ?_
      have e14 : g1 14 = .int .i64 D := hd ⟨10, .data⟩ (by simp) rfl
      have e18 : g1 18 = .int .i64 now := hd ⟨14, .data⟩ (by simp) rfl
      generalize hA : mkAct _ _ g1 = Ac
      have h14 : Ac.tmps[14]?.getD undef = .int .i64 D := by rw [← hA, mkAct_in2 _ _ _ _ rfl rfl]; exact e14
      have h18 : Ac.tmps[18]?.getD undef = .int .i64 now := by rw [← hA, mkAct_in2 _ _ _ _ rfl rfl]; exact e18
      refine step_val (v := .bool false) (w' := w') ?_ ⟨_, rfl, Ext.refl _ _, rfl⟩
      simp [execOp, h14, h18, Result.andThen, go_sem, hDn]
    case f16 =>
      intro g1 w' hx hd
      refine op_run rfl ?_
      have e7 : g1 7 = .bool false := hd ⟨3, .data⟩ (by simp) rfl
      have e19 : g1 19 = .bool false := hd ⟨15, .data⟩ (by simp) rfl
      generalize hA : mkAct _ _ g1 = Ac
      have h7 : Ac.tmps[7]?.getD undef = .bool false := by rw [← hA, mkAct_in2 _ _ _ _ rfl rfl]; exact e7
      have h19 : Ac.tmps[19]?.getD undef = .bool false := by rw [← hA, mkAct_in2 _ _ _ _ rfl rfl]; exact e19
      refine step_val (v := .bool false) (w' := w') ?_ ⟨_, rfl, Ext.refl _ _, rfl⟩
      simp [execOp, h7, h19, Result.andThen, go_sem]
  · intro g1 w5 hx5 hd
    have e20 : g1 20 = .bool false := hd 16 (by decide)
    unfold mkAct
    simp only [List.zipIdx_cons, List.zipIdx_nil, List.map_cons, List.map_nil, Nat.zero_add, Nat.reduceAdd, List.contains_cons, List.contains_nil, Nat.reduceBEq, Bool.or_false, Bool.or_true, ↓reduceIte, Bool.false_eq_true]
    rw [e20]
    clear hd e20
    have hB5 := hB.keep hx5 (by simp)
    have hN5 := hNW.keep0 hx5
    have hGb : G ≠ b := by have := hN.blk.lt; omega
    have hGv : G ≠ g := by have := hN.own.lt g (by simp [vblocks]); omega
    have HX5 := Hid.of hx5
    clear c0 c1 cd hNx hx5
    go_wp2_with (first
      | (go_at_call 30; (with_reducible refine (hpop_any b g off n c now seq L w5 hN5 hl0 hH hl1).mono ?_); rintro e w6 ⟨⟨x', hx', hperm, hheap, rfl⟩, h6⟩; obtain rfl : x = x' := Option.some.inj (HX0.out.symm.trans hx'); have hB6 := hB5.keep h6.1 (by simp [vblocks, hGb, hGv]); have H6 := Hid.of h6; have H7 := Hid.of hperm; clear h6 hperm hx')
      | (refine wpList_store_mid rfl 36 _ _ rfl G 0 x.m.cells.toArray rfl rfl hB6.there (by kernel_rfl) (mall _) ?_))
    refine bodyPost_ret (results_row rfl _ _ G x.m.cells _ rfl (World.rangeAt_setCells_same _ _ _ _ hB6.there) Try.underlying36 rfl (by kernel_rfl)) rfl ?_
    refine ⟨x, popL ltL L, HP.out.symm.trans H7.out, HM.out, by have := HD.out; omega, rfl, ?_⟩
    obtain ⟨x6, v8, s8, b8⟩ := NetTo.r H6.out hheap (List.Perm.refl _)
    have hG5 := hB5.lt
    have hx05 := hxW.then0 HX5.out
    have hsz := hx05.size
    have hx06 := (hx05.mono (G := b :: vblocks (.slice (some ⟨g, off, none⟩) n c)) (by simp)).trans x6 (fun k hk => .inl hk)
    refine ⟨hx06.setCells (.inr hGw) _ _, v8, s8.keep ((Ext.refl [G] w6).setCells (.inl (by simp)) _ _) (by simp [Ne.symm hGb]) (fun k hk => ?_), fun k hk => (b8 k hk).imp_right (fun h => by omega)⟩
    rcases b8 k hk with h | h
    · simp [vblocks] at h; subst h; simp [Ne.symm hGv]
    · simp; omega
theorem nnext_nil (w : World) :
    Calls Try.prog 15 #[.pointer none] w fun e w' => e = .returned (.tuple #[.agg Ms.zero.cells.toArray, .bool false]) ∧ Ext [] w w' := by
  obtain ⟨G, hG⟩ : ∃ x, x = w.heap.size := ⟨_, rfl⟩
  obtain ⟨W, hW⟩ : ∃ x, x = w.alloc (.cells Ms.zero.cells.toArray 36) := ⟨_, rfl⟩
  have hxW : Ext [] w W := by rw [hW]; exact (Ext.refl _ _).alloc _
  have hB : Blk W G 36 Ms.zero.cells := by rw [hW, hG]; exact Blk.new _ _ _
  have hGw : w.heap.size ≤ G := by omega
  go_enter Try.func15, Try.ntmps15
  go_wp2_with (refine wpList_zero_row rfl 36 rfl Ms.zero.cells al_zero ?_)
  rw [← hW, ← hG]
  clear hW hG
  refine wp_region_stepsg [4, 5, 6, 7, 8, 9, 10, 11, 12, 13, 14, 15, 16, 17, 18, 19, 20] (nxnilΦ ()) (by kernel_rfl) (by kernel_rfl) (fun k y w1 w2 h hx => nxnilΦ_keep () k y w1 w2 h hx) ?_ ?_
  · refine ⟨?f0, ?f1, ?f2, ?f3, ?f4, ?f5, ?f6, ?f7, ?f8, ?f9, ?f10, ?f11, ?f12, ?f13, ?f14, ?f15, ?f16, trivial⟩
    case f0 =>
      intro g1 w' hx hd
      refine op_run rfl ?_
      generalize hA : mkAct _ _ g1 = Ac
      have h0 : Ac.tmps[0]?.getD undef = .pointer none := by rw [← hA]; exact mkAct_out2 _ _ _ _ _ rfl rfl
      refine step_val (v := .pointer none) (w' := w') ?_ ⟨_, rfl, Ext.refl _ _, rfl⟩
      simp [execOp, h0, Result.andThen, go_sem]
    case f1 =>
      intro g1 w' hx hd
      refine op_run rfl ?_
      have e4 : g1 4 = .pointer none := hd ⟨0, .data⟩ (by simp) rfl
      generalize hA : mkAct _ _ g1 = Ac
      have h4 : Ac.tmps[4]?.getD undef = .pointer none := by rw [← hA, mkAct_in2 _ _ _ _ rfl rfl]; exact e4
      refine float_k (fun K hK => ?_)
      go_simp
      refine (nlen_nil w').mono ?_
      rintro e w2 ⟨rfl, rfl⟩
      exact hK _ _ (Ext.refl _ _) rfl
    case f2 =>
      intro g1 w' hx hd
      refine op_run rfl ?_
      have e5 : g1 5 = .int .i64 0 := hd ⟨1, .data⟩ (by simp) rfl
      generalize hA : mkAct _ _ g1 = Ac
      have h5 : Ac.tmps[5]?.getD undef = .int .i64 0 := by rw [← hA, mkAct_in2 _ _ _ _ rfl rfl]; exact e5
      refine step_val (v := .bool true) (w' := w') ?_ ⟨_, rfl, Ext.refl _ _, rfl⟩
      simp [execOp, h5, Result.andThen, go_sem]
    case f3 =>
      intro g1 w' hx hd
      refine op_run rfl ?_
      have e6 : g1 6 = .bool true := hd ⟨2, .data⟩ (by simp) rfl
      generalize hA : mkAct _ _ g1 = Ac
      have h6 : Ac.tmps[6]?.getD undef = .bool true := by rw [← hA, mkAct_in2 _ _ _ _ rfl rfl]; exact e6
      refine step_val (v := .bool true) (w' := w') ?_ ⟨_, rfl, Ext.refl _ _, rfl⟩
      simp [execOp, h6, Result.andThen, go_sem]
    case f4 =>
      intro g1 w' hx hd
      have eg : g1 7 = .bool true := hd ⟨3, .guard⟩ (by simp) rfl
      exact op_no rfl rfl rfl rfl true eg (by decide) ⟨_, rfl, Ext.refl _ _, trivial⟩
    case f5 =>
      intro g1 w' hx hd
      have eg : g1 7 = .bool true := hd ⟨3, .guard⟩ (by simp) rfl
      exact op_no rfl rfl rfl rfl true eg (by decide) ⟨_, rfl, Ext.refl _ _, trivial⟩
    case f6 =>
      intro g1 w' hx hd
      have eg : g1 7 = .bool true := hd ⟨3, .guard⟩ (by simp) rfl
      exact op_no rfl rfl rfl rfl true eg (by decide) ⟨_, rfl, Ext.refl _ _, trivial⟩
    case f7 =>
      intro g1 w' hx hd
      have eg : g1 7 = .bool true := hd ⟨3, .guard⟩ (by simp) rfl
      exact op_no rfl rfl rfl rfl true eg (by decide) ⟨_, rfl, Ext.refl _ _, trivial⟩
    case f8 =>
      intro g1 w' hx hd
      have eg : g1 7 = .bool true := hd ⟨3, .guard⟩ (by simp) rfl
      exact op_no rfl rfl rfl rfl true eg (by decide) ⟨_, rfl, Ext.refl _ _, trivial⟩
    case f9 =>
      intro g1 w' hx hd
      have eg : g1 7 = .bool true := hd ⟨3, .guard⟩ (by simp) rfl
      exact op_no rfl rfl rfl rfl true eg (by decide) ⟨_, rfl, Ext.refl _ _, trivial⟩
    case f10 =>
      intro g1 w' hx hd
      have eg : g1 7 = .bool true := hd ⟨3, .guard⟩ (by simp) rfl
      exact op_no rfl rfl rfl rfl true eg (by decide) ⟨_, rfl, Ext.refl _ _, trivial⟩
    case f11 =>
      intro g1 w' hx hd
      have eg : g1 7 = .bool true := hd ⟨3, .guard⟩ (by simp) rfl
      exact op_no rfl rfl rfl rfl true eg (by decide) ⟨_, rfl, Ext.refl _ _, trivial⟩
    case f12 =>
      intro g1 w' hx hd
      have eg : g1 7 = .bool true := hd ⟨3, .guard⟩ (by simp) rfl
      exact op_no rfl rfl rfl rfl true eg (by decide) ⟨_, rfl, Ext.refl _ _, trivial⟩
    case f13 =>
      intro g1 w' hx hd
      have eg : g1 7 = .bool true := hd ⟨3, .guard⟩ (by simp) rfl
      exact op_no rfl rfl rfl rfl true eg (by decide) ⟨_, rfl, Ext.refl _ _, trivial⟩
    case f14 =>
      intro g1 w' hx hd
      have eg : g1 7 = .bool true := hd ⟨3, .guard⟩ (by simp) rfl
      exact op_no rfl rfl rfl rfl true eg (by decide) ⟨_, rfl, Ext.refl _ _, trivial⟩
    case f15 =>
      intro g1 w' hx hd
      have eg : g1 7 = .bool true := hd ⟨3, .guard⟩ (by simp) rfl
      exact op_no rfl rfl rfl rfl true eg (by decide) ⟨_, rfl, Ext.refl _ _, trivial⟩
    case f16 =>
      intro g1 w' hx hd
      refine op_run rfl ?_
      have e7 : g1 7 = .bool true := hd ⟨3, .data⟩ (by simp) rfl
      generalize hA : mkAct _ _ g1 = Ac
      have h7 : Ac.tmps[7]?.getD undef = .bool true := by rw [← hA, mkAct_in2 _ _ _ _ rfl rfl]; exact e7
      refine step_val (v := .bool true) (w' := w') ?_ ⟨_, rfl, Ext.refl _ _, rfl⟩
      simp [execOp, h7, Result.andThen, go_sem]
  · intro g1 w5 hx5 hd
    have e20 : g1 20 = .bool true := hd 16 (by decide)
    unfold mkAct
    simp only [List.zipIdx_cons, List.zipIdx_nil, List.map_cons, List.map_nil, Nat.zero_add, Nat.reduceAdd, List.contains_cons, List.contains_nil, Nat.reduceBEq, Bool.or_false, Bool.or_true, ↓reduceIte, Bool.false_eq_true]
    rw [e20]
    clear hd e20
    have hB5 := hB.keep hx5 (by simp)
    go_wp2_with (refine wpList_store_mid rfl 36 _ _ rfl G 0 Ms.zero.cells.toArray rfl rfl hB5.there (by kernel_rfl) (mall _) ?_)
    refine bodyPost_ret (results_row rfl _ _ G Ms.zero.cells _ rfl (World.rangeAt_setCells_same _ _ _ _ hB5.there) Try.underlying36 rfl (by kernel_rfl)) rfl ?_
    exact ⟨rfl, (hxW.then0 hx5).setCells (.inr hGw) _ _⟩
end Go.Proofs.Ytaekkkcgoegllaa
