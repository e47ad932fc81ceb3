/- Package msg: the walk of Same. -/
import Derived.Test.YtaekkkcgoegllaaMsgc
import Derived.Test.YtaekkkcgoegllaaRegJ
namespace Go.Proofs.Ytaekkkcgoegllaa
open Go.RowKit
set_option linter.unusedVariables false
set_option linter.unusedSimpArgs false

theorem Blk.range {w : World} {g : Nat} {t : TypeId} {cs : List Value} (h : Blk w g t cs) : w.rangeAt g 0 cs := by
  intro j v hv
  rw [Nat.zero_add, h.c j]; exact hv
def smJ (W : World) (m o : Ms) (L : Array Bool) (g : Nat → Value) (w' : World) : Prop :=
  Ext [] W w' ∧ (L[0]? = some true → g 11 = .agg m.cells.toArray) ∧ (L[1]? = some true → g 12 = .agg o.cells.toArray) ∧
  (L[2]? = some true → ∃ p cs, g 5 = .pointer (some ⟨p, 0, none⟩) ∧ W.heap.size ≤ p ∧ Blk w' p 36 cs ∧ cs.length = 17 ∧ (L[4]? = some true → cs = m.cells)) ∧
  (L[3]? = some true → ∃ p cs, g 6 = .pointer (some ⟨p, 0, none⟩) ∧ W.heap.size ≤ p ∧ Blk w' p 36 cs ∧ cs.length = 17 ∧ (L[5]? = some true → cs = o.cells)) ∧
  (L[2]? = some true → L[3]? = some true → ∀ p q, g 5 = .pointer (some ⟨p, 0, none⟩) → g 6 = .pointer (some ⟨q, 0, none⟩) → p ≠ q) ∧
  (L[4]? = some true → L[2]? = some true) ∧ (L[5]? = some true → L[3]? = some true)
noncomputable def sameB (a b : Mv) : Bool := @decide (a = b) (Classical.propDecidable _)
theorem sameB_true {a b : Mv} (h : a = b) : sameB a b = true := by unfold sameB; exact @decide_eq_true _ (Classical.propDecidable _) h
theorem sameB_false {a b : Mv} (h : a ≠ b) : sameB a b = false := by unfold sameB; exact @decide_eq_false _ (Classical.propDecidable _) h
theorem updG_ne (g : Nat → Value) (d : Nat) (v : Value) (t : Nat) (h : t ≠ d) : updG g d v t = g t := if_neg h
theorem updG_eq (g : Nat → Value) (d : Nat) (v : Value) : updG g d v d = v := if_pos rfl
def Ms.bare (m : Ms) : Ms := { m with ea := none, en := 0, ec := 0, li := 0, lt := 0, lb := 0, sa := none, sn := 0, sc := 0 }
theorem z64 : I64 0 := ⟨by decide, by decide⟩
theorem z48 : R48 0 := ⟨by decide, by decide⟩
theorem MsAt.bare {w : World} {m : Ms} {es : List En} {ss : List UInt32} (h : MsAt w m es ss) (w' : World) : MsAt w' m.bare [] [] := by
  obtain ⟨a1, a2, a3, a4, a5, a6, a7, a8, a9, a10, a11, a12, a13⟩ := h.nums
  exact ⟨⟨a1, a2, a3, a4, a5, a6, a7, a8, a9, z64, z64, z64, a13⟩, h.data, Rd.nil _ _, by simp, Rd.nil _ _⟩
theorem RightM.bare {m : Ms} {es : List En} {ss : List UInt32} (h : RightM m es ss) : RightM m.bare [] [] := by
  obtain ⟨h1, ⟨a1, a2, a3, a4, a5, a6, a7, a8, a9, a10, a11⟩, h3, h4, h5, h6, h7⟩ := h
  exact ⟨h1, ⟨a1, a2, a3, a4, a5, a6, a7, a8, z48, z48, z48⟩, by simp, by simp, h5, by simp, h7⟩
theorem bare_eq {m o : Ms} {es es' : List En} {ss ss' : List UInt32} (hR : RightM m es ss) (hR' : RightM o es' ss') : mv m es ss = mv o es' ss' ↔ encM m.bare [] [] = encM o.bare [] [] ∧ es = es' ∧ (m.li = o.li ∧ m.lt = o.lt ∧ m.lb = o.lb ∧ ss = ss') := by
  constructor
  · intro h
    simp only [mv, Prod.mk.injEq, List.cons.injEq, and_true] at h
    obtain ⟨h1, ⟨b1, b2, b3, b4, b5, b6, b7⟩, h3, h4, h5, ⟨c1, c2, c3⟩, h7, h8, h9⟩ := h
    refine ⟨?_, h3, c1, c2, c3, h7⟩
    unfold encM mv Ms.bare
    simp only [h1, b1, b2, b3, b4, b5, b6, b7, h4, h5, h8, h9]
  · rintro ⟨h, h3, c1, c2, c3, h7⟩
    have := msgC.inj ((okV_mv _ _ _).1 hR.bare).1 ((okV_mv _ _ _).1 hR'.bare).1 h
    simp only [mv, Ms.bare, Prod.mk.injEq, List.cons.injEq, and_true, true_and] at this
    obtain ⟨h1, ⟨b1, b2, b3, b4, b5, b6, b7⟩, h4, h5, h8, h9⟩ := this
    simp only [mv, h1, b1, b2, b3, b4, b5, b6, b7, h3, h4, h5, c1, c2, c3, h7, h8, h9]
theorem bare_kind {m o : Ms} {es es' : List En} {ss ss' : List UInt32} (hR : RightM m es ss) (hR' : RightM o es' ss') (h : encM m.bare [] [] = encM o.bare [] []) : m.kind = o.kind := by
  have := msgC.inj ((okV_mv _ _ _).1 hR.bare).1 ((okV_mv _ _ _).1 hR'.bare).1 h
  simp only [mv, Ms.bare, Prod.mk.injEq] at this
  exact this.1
set_option maxRecDepth 100000 in
set_option maxHeartbeats 12800000 in
theorem same_m (m o : Ms) (es es' : List En) (ss ss' : List UInt32) (w : World) (h : MsAt w m es ss) (h' : MsAt w o es' ss') (hR : RightM m es ss) (hR' : RightM o es' ss') :
    Calls Try.prog 28 #[.agg m.cells.toArray, .agg o.cells.toArray] w fun e w' => e = .returned (.bool (sameB (mv m es ss) (mv o es' ss'))) ∧ Ext [] w w' := by
  obtain ⟨G1, hG1⟩ : ∃ G, G = w.heap.size := ⟨_, rfl⟩
  obtain ⟨W, hW⟩ : ∃ W, W = (w.alloc (.cells m.cells.toArray 36)).alloc (.cells o.cells.toArray 36) := ⟨_, rfl⟩
  have hB1 : Blk W G1 36 m.cells := by rw [hW, hG1]; exact (Blk.new _ _ _).alloc _
  have hB2 : Blk W (G1 + 1) 36 o.cells := by
    have := Blk.new (w.alloc (.cells m.cells.toArray 36)) 36 o.cells.toArray
    rw [World.size_alloc] at this
    rw [hW, hG1]; exact this
  have hxW : Ext [] w W := by rw [hW]; exact ((Ext.refl _ _).alloc _).alloc _
  go_enter Try.func28, Try.ntmps28
  go_wp2_with fail
  rw [← hW, ← hG1]
  have HW := Hid.of hW
  have HXW := Hid.of hxW
  clear hW hG1 hxW
  refine wp_region_J [11, 12, 5, 6] (smJ W m o) (by kernel_rfl) (by kernel_rfl) (by kernel_rfl) ⟨(Ext.refl _ _).drew, by simp, by simp, by simp, by simp, by simp, by simp, by simp⟩ ?_ ?_
  · intro i op ho L g w' hL hLi hdp hJ
    have hk : ∀ k, (L.setIfInBounds i true)[k]? = some true → k = i ∨ L[k]? = some true := by
      intro k hk
      by_cases e : k = i
      · exact .inl e
      · rw [setB_other e] at hk; exact .inr hk
    obtain ⟨hx, j0, j1, j2, j3, j4, j5, j6⟩ := hJ
    have hset : ∀ k, k ≠ i → L[k]? = some true → (L.setIfInBounds i true)[k]? = some true := fun k h1 h2 => by rw [setB_other h1]; exact h2
    rcases i with _ | _ | _ | _ | _ | _ | i
    · -- load
      simp at ho; subst ho
      refine wp_load_mid 36 _ rfl G1 0 (by rw [mkAct_out _ _ _ _ rfl]; rfl) m.cells _ (hB1.keep hx (by simp)).range Try.underlying36 rfl (by rw [mcells_len]; kernel_rfl) ⟨_, mkAct_put _ _ _ _ _ rfl, hx, fun _ => updG_eq _ _ _, fun a => ?_, fun a => ?_, fun a => ?_, fun a b => ?_, fun a => hset 2 (by decide) (j5 ((hk 4 a).resolve_left (by decide))), fun a => hset 3 (by decide) (j6 ((hk 5 a).resolve_left (by decide)))⟩
      · rw [updG_ne _ _ _ _ (by decide)]; exact j1 ((hk 1 a).resolve_left (by decide))
      · obtain ⟨p, cs, e1, e2, e3, e4, e5⟩ := j2 ((hk 2 a).resolve_left (by decide))
        exact ⟨p, cs, by rw [updG_ne _ _ _ _ (by decide)]; exact e1, e2, e3, e4, fun c => e5 ((hk 4 c).resolve_left (by decide))⟩
      · obtain ⟨p, cs, e1, e2, e3, e4, e5⟩ := j3 ((hk 3 a).resolve_left (by decide))
        exact ⟨p, cs, by rw [updG_ne _ _ _ _ (by decide)]; exact e1, e2, e3, e4, fun c => e5 ((hk 5 c).resolve_left (by decide))⟩
      · rw [updG_ne _ _ _ _ (by decide), updG_ne _ _ _ _ (by decide)]
        exact j4 ((hk 2 a).resolve_left (by decide)) ((hk 3 b).resolve_left (by decide))
    · simp at ho; subst ho
      refine wp_load_mid 36 _ rfl (G1 + 1) 0 (by rw [mkAct_out _ _ _ _ rfl]; rfl) o.cells _ (hB2.keep hx (by simp)).range Try.underlying36 rfl (by rw [mcells_len]; kernel_rfl) ⟨_, mkAct_put _ _ _ _ _ rfl, hx, fun a => ?_, fun _ => updG_eq _ _ _, fun a => ?_, fun a => ?_, fun a b => ?_, fun a => hset 2 (by decide) (j5 ((hk 4 a).resolve_left (by decide))), fun a => hset 3 (by decide) (j6 ((hk 5 a).resolve_left (by decide)))⟩
      · rw [updG_ne _ _ _ _ (by decide)]; exact j0 ((hk 0 a).resolve_left (by decide))
      · obtain ⟨p, cs, e1, e2, e3, e4, e5⟩ := j2 ((hk 2 a).resolve_left (by decide))
        exact ⟨p, cs, by rw [updG_ne _ _ _ _ (by decide)]; exact e1, e2, e3, e4, fun c => e5 ((hk 4 c).resolve_left (by decide))⟩
      · obtain ⟨p, cs, e1, e2, e3, e4, e5⟩ := j3 ((hk 3 a).resolve_left (by decide))
        exact ⟨p, cs, by rw [updG_ne _ _ _ _ (by decide)]; exact e1, e2, e3, e4, fun c => e5 ((hk 5 c).resolve_left (by decide))⟩
      · rw [updG_ne _ _ _ _ (by decide), updG_ne _ _ _ _ (by decide)]
        exact j4 ((hk 2 a).resolve_left (by decide)) ((hk 3 b).resolve_left (by decide))
    · simp at ho; subst ho
      refine wp_alloc_row 36 rfl Ms.zero.cells al_zero ⟨_, mkAct_put _ _ _ _ _ rfl, hx.alloc _, fun a => ?_, fun a => ?_, fun _ => ⟨w'.heap.size, Ms.zero.cells, updG_eq _ _ _, hx.size, Blk.new _ _ _, rfl, fun c => ?_⟩, fun a => ?_, fun a b => ?_, fun _ => setB_same hL (by decide), fun a => hset 3 (by decide) (j6 ((hk 5 a).resolve_left (by decide)))⟩
      · rw [updG_ne _ _ _ _ (by decide)]; exact j0 ((hk 0 a).resolve_left (by decide))
      · rw [updG_ne _ _ _ _ (by decide)]; exact j1 ((hk 1 a).resolve_left (by decide))
      · have := j5 ((hk 4 c).resolve_left (by decide)); rw [hLi] at this; cases this
      · obtain ⟨p, cs, e1, e2, e3, e4, e5⟩ := j3 ((hk 3 a).resolve_left (by decide))
        exact ⟨p, cs, by rw [updG_ne _ _ _ _ (by decide)]; exact e1, e2, e3.alloc _, e4, fun c => e5 ((hk 5 c).resolve_left (by decide))⟩
      · obtain ⟨p, cs, e1, e2, e3, e4, e5⟩ := j3 ((hk 3 b).resolve_left (by decide))
        intro p' q' h1 h2
        rw [updG_eq] at h1
        rw [updG_ne _ _ _ _ (by decide), e1] at h2
        simp at h1 h2
        have := e3.lt
        omega
    · simp at ho; subst ho
      refine wp_alloc_row 36 rfl Ms.zero.cells al_zero ⟨_, mkAct_put _ _ _ _ _ rfl, hx.alloc _, fun a => ?_, fun a => ?_, fun a => ?_, fun _ => ⟨w'.heap.size, Ms.zero.cells, updG_eq _ _ _, hx.size, Blk.new _ _ _, rfl, fun c => ?_⟩, fun a b => ?_, fun a => hset 2 (by decide) (j5 ((hk 4 a).resolve_left (by decide))), fun _ => setB_same hL (by decide)⟩
      · rw [updG_ne _ _ _ _ (by decide)]; exact j0 ((hk 0 a).resolve_left (by decide))
      · rw [updG_ne _ _ _ _ (by decide)]; exact j1 ((hk 1 a).resolve_left (by decide))
      · obtain ⟨p, cs, e1, e2, e3, e4, e5⟩ := j2 ((hk 2 a).resolve_left (by decide))
        exact ⟨p, cs, by rw [updG_ne _ _ _ _ (by decide)]; exact e1, e2, e3.alloc _, e4, fun c => e5 ((hk 4 c).resolve_left (by decide))⟩
      · have := j6 ((hk 5 c).resolve_left (by decide)); rw [hLi] at this; cases this
      · obtain ⟨p, cs, e1, e2, e3, e4, e5⟩ := j2 ((hk 2 a).resolve_left (by decide))
        intro p' q' h1 h2
        rw [updG_eq] at h2
        rw [updG_ne _ _ _ _ (by decide), e1] at h1
        simp at h1 h2
        have := e3.lt
        omega
    · simp at ho; subst ho
      obtain ⟨p, cs, e1, e2, e3, e4, e5⟩ := j2 (hdp ⟨2, .data⟩ (by simp) rfl)
      have ev := j0 (hdp ⟨0, .data⟩ (by simp) rfl)
      refine wp_store_mid 36 _ _ rfl p 0 m.cells.toArray (by rw [mkAct_in _ _ _ _ rfl rfl]; exact e1) (by rw [mkAct_in _ _ _ _ rfl rfl]; exact ev) (by have := e3.there; rw [e4] at this; exact this) (by kernel_rfl) (mall _) ⟨g, rfl, hx.setCells (.inr e2) _ _, fun a => j0 ((hk 0 a).resolve_left (by decide)), fun a => j1 ((hk 1 a).resolve_left (by decide)), fun a => ?_, fun a => ?_, fun a b => j4 ((hk 2 a).resolve_left (by decide)) ((hk 3 b).resolve_left (by decide)), fun a => hset 2 (by decide) (hdp ⟨2, .data⟩ (by simp) rfl), fun a => hset 3 (by decide) (j6 ((hk 5 a).resolve_left (by decide)))⟩
      · exact ⟨p, m.cells, e1, e2, e3.fill (by rw [e4, mcells_len]), mcells_len m, fun _ => rfl⟩
      · obtain ⟨p2, cs2, d1, d2, d3, d4, d5⟩ := j3 ((hk 3 a).resolve_left (by decide))
        have hne : p2 ≠ p := (j4 (hdp ⟨2, .data⟩ (by simp) rfl) ((hk 3 a).resolve_left (by decide)) p p2 e1 d1).symm
        exact ⟨p2, cs2, d1, d2, d3.keep ((Ext.refl [p] w').setCells (.inl (by simp)) _ _) (by simp [hne]), d4, fun c => d5 ((hk 5 c).resolve_left (by decide))⟩
    · simp at ho; subst ho
      obtain ⟨p, cs, e1, e2, e3, e4, e5⟩ := j3 (hdp ⟨3, .data⟩ (by simp) rfl)
      have ev := j1 (hdp ⟨1, .data⟩ (by simp) rfl)
      refine wp_store_mid 36 _ _ rfl p 0 o.cells.toArray (by rw [mkAct_in _ _ _ _ rfl rfl]; exact e1) (by rw [mkAct_in _ _ _ _ rfl rfl]; exact ev) (by have := e3.there; rw [e4] at this; exact this) (by kernel_rfl) (mall _) ⟨g, rfl, hx.setCells (.inr e2) _ _, fun a => j0 ((hk 0 a).resolve_left (by decide)), fun a => j1 ((hk 1 a).resolve_left (by decide)), fun a => ?_, fun a => ?_, fun a b => j4 ((hk 2 a).resolve_left (by decide)) ((hk 3 b).resolve_left (by decide)), fun a => hset 2 (by decide) (j5 ((hk 4 a).resolve_left (by decide))), fun a => hset 3 (by decide) (hdp ⟨3, .data⟩ (by simp) rfl)⟩
      · obtain ⟨p2, cs2, d1, d2, d3, d4, d5⟩ := j2 ((hk 2 a).resolve_left (by decide))
        have hne : p2 ≠ p := j4 ((hk 2 a).resolve_left (by decide)) (hdp ⟨3, .data⟩ (by simp) rfl) p2 p d1 e1
        exact ⟨p2, cs2, d1, d2, d3.keep ((Ext.refl [p] w').setCells (.inl (by simp)) _ _) (by simp [hne]), d4, fun c => d5 ((hk 4 c).resolve_left (by decide))⟩
      · exact ⟨p, o.cells, e1, e2, e3.fill (by rw [e4, mcells_len]), mcells_len o, fun _ => rfl⟩
    · simp at ho
  · intro g w5 hJ
    obtain ⟨hx, j0, j1, j2, j3, j4, -, -⟩ := hJ
    obtain ⟨p, cs, e5, hp, hBp, -, ec⟩ := j2 rfl
    obtain rfl := ec rfl
    obtain ⟨q, cs2, e6, hq, hBq, -, ec2⟩ := j3 rfl
    obtain rfl := ec2 rfl
    have hpq := j4 rfl rfl p q e5 e6
    unfold mkAct
    simp only [List.zipIdx_cons, List.zipIdx_nil, List.map_cons, List.map_nil, Nat.zero_add, Nat.reduceAdd, List.contains_cons, List.contains_nil, Nat.reduceBEq, Bool.or_false, Bool.or_true, ↓reduceIte, Bool.false_eq_true]
    rw [e5, e6]
    clear j0 j1 j2 j3 j4 ec ec2 e5 e6
    have p8 : w5.cell? ⟨p, 8, none⟩ = some (.slice m.ea m.en m.ec) := hBp.c 8
    have fp8 : w5.frozen? ⟨p, 8, none⟩ = false := hBp.f 8
    have p11 : w5.cell? ⟨p, 11, none⟩ = some (.int .i64 m.li) := hBp.c 11
    have fp11 : w5.frozen? ⟨p, 11, none⟩ = false := hBp.f 11
    have p12 : w5.cell? ⟨p, 12, none⟩ = some (.int .i64 m.lt) := hBp.c 12
    have fp12 : w5.frozen? ⟨p, 12, none⟩ = false := hBp.f 12
    have p13 : w5.cell? ⟨p, 13, none⟩ = some (.int .i64 m.lb) := hBp.c 13
    have fp13 : w5.frozen? ⟨p, 13, none⟩ = false := hBp.f 13
    have p14 : w5.cell? ⟨p, 14, none⟩ = some (.slice m.sa m.sn m.sc) := hBp.c 14
    have fp14 : w5.frozen? ⟨p, 14, none⟩ = false := hBp.f 14
    have q8 : w5.cell? ⟨q, 8, none⟩ = some (.slice o.ea o.en o.ec) := hBq.c 8
    have fq8 : w5.frozen? ⟨q, 8, none⟩ = false := hBq.f 8
    have q11 : w5.cell? ⟨q, 11, none⟩ = some (.int .i64 o.li) := hBq.c 11
    have fq11 : w5.frozen? ⟨q, 11, none⟩ = false := hBq.f 11
    have q12 : w5.cell? ⟨q, 12, none⟩ = some (.int .i64 o.lt) := hBq.c 12
    have fq12 : w5.frozen? ⟨q, 12, none⟩ = false := hBq.f 12
    have q13 : w5.cell? ⟨q, 13, none⟩ = some (.int .i64 o.lb) := hBq.c 13
    have fq13 : w5.frozen? ⟨q, 13, none⟩ = false := hBq.f 13
    have q14 : w5.cell? ⟨q, 14, none⟩ = some (.slice o.sa o.sn o.sc) := hBq.c 14
    have fq14 : w5.frozen? ⟨q, 14, none⟩ = false := hBq.f 14
    have hB1' : Blk w5 G1 36 m.cells := hB1.keep hx (by simp)
    go_upto_region 3 with fail
    obtain ⟨W6, hW6⟩ : ∃ x, x = ((((((((((w5.setCell ⟨p, 8, none⟩ (.slice none 0 0)).setCell ⟨q, 8, none⟩ (.slice none 0 0)).setCell ⟨p, 11, none⟩ (.int .i64 0)).setCell ⟨p, 12, none⟩ (.int .i64 0)).setCell ⟨p, 13, none⟩ (.int .i64 0)).setCell ⟨p, 14, none⟩ (.slice none 0 0)).setCell ⟨q, 11, none⟩ (.int .i64 0)).setCell ⟨q, 12, none⟩ (.int .i64 0)).setCell ⟨q, 13, none⟩ (.int .i64 0)).setCell ⟨q, 14, none⟩ (.slice none 0 0)) := ⟨_, rfl⟩
    have hp6 : Blk W6 p 36 m.bare.cells := by rw [hW6]; exact ((((((((((hBp.set 8 (.slice none 0 0)).other ⟨q, 8, none⟩ (.slice none 0 0) (by simp [hpq])).set 11 (.int .i64 0)).set 12 (.int .i64 0)).set 13 (.int .i64 0)).set 14 (.slice none 0 0)).other ⟨q, 11, none⟩ (.int .i64 0) (by simp [hpq])).other ⟨q, 12, none⟩ (.int .i64 0) (by simp [hpq])).other ⟨q, 13, none⟩ (.int .i64 0) (by simp [hpq])).other ⟨q, 14, none⟩ (.slice none 0 0) (by simp [hpq]))
    have hq6 : Blk W6 q 36 o.bare.cells := by rw [hW6]; exact ((((((((((hBq.other ⟨p, 8, none⟩ (.slice none 0 0) (by simp [hpq.symm])).set 8 (.slice none 0 0)).other ⟨p, 11, none⟩ (.int .i64 0) (by simp [hpq.symm])).other ⟨p, 12, none⟩ (.int .i64 0) (by simp [hpq.symm])).other ⟨p, 13, none⟩ (.int .i64 0) (by simp [hpq.symm])).other ⟨p, 14, none⟩ (.slice none 0 0) (by simp [hpq.symm])).set 11 (.int .i64 0)).set 12 (.int .i64 0)).set 13 (.int .i64 0)).set 14 (.slice none 0 0))
    have hx6 : Ext [] W W6 := by rw [hW6]; exact ((((((((((hx.setCell (.inr hp) _).setCell (.inr hq) _).setCell (.inr hp) _).setCell (.inr hp) _).setCell (.inr hp) _).setCell (.inr hp) _).setCell (.inr hq) _).setCell (.inr hq) _).setCell (.inr hq) _).setCell (.inr hq) _)
    rw [← hW6]
    have hb1 : ∀ w', Ext [] W6 w' → Blk w' G1 36 m.cells := fun w' hx' => (hB1.keep hx6 (by simp)).keep hx' (by simp)
    have hb2 : ∀ w', Ext [] W6 w' → Blk w' (G1 + 1) 36 o.cells := fun w' hx' => (hB2.keep hx6 (by simp)).keep hx' (by simp)
    have cb1 := bytes_any m.bare [] [] W6 (h.bare W6) (by simp)
    rw [if_pos hR.bare] at cb1
    have cb2 := fun w' => bytes_any o.bare [] [] w' (h'.bare w') (by simp)
    simp only [if_pos hR'.bare] at cb2
    have HBE := Hid.of (bare_eq hR hR')
    have HBK := Hid.of (bare_kind hR hR')
    have HM := Hid.of h
    have HM' := Hid.of h'
    have HP := Hid.of hp6.range
    have HQ := Hid.of hq6
    have HP6 := Hid.of hp6
    have HX6 := Hid.of hx6
    have Hb1 := Hid.of hb1
    have Hb2 := Hid.of hb2
    generalize encM m.bare [] [] = X at cb1 HBE HBK
    generalize encM o.bare [] [] = Y at cb2 HBE HBK
    clear hW6 hp6 hq6 hx6 hb1 hb2 hB1 hB2 hB1' hBp hBq hx h h' hR hR' p8 fp8 q8 fq8 p11 fp11 q11 fq11 p12 fp12 q12 fq12 p13 fp13 q13 fq13 p14 fp14 q14 fq14
    by_cases hXY : X = Y
    · subst hXY
      have hkk := HBK.out rfl
      by_cases hes : es = es'
      · subst hes
        have HF0 : Hid (sameB (mv m es ss) (mv o es ss') = decide (m.li = o.li ∧ m.lt = o.lt ∧ m.lb = o.lb ∧ ss = ss')) := by
          show _ = _
          by_cases hl : m.li = o.li ∧ m.lt = o.lt ∧ m.lb = o.lb ∧ ss = ss'
          · rw [decide_eq_true hl, sameB_true (HBE.out.2 ⟨rfl, rfl, hl⟩)]
          · rw [decide_eq_false hl, sameB_false (fun h => hl (HBE.out.1 h).2.2)]
        obtain ⟨LB, hLB⟩ : ∃ b, b = decide (m.li = o.li ∧ m.lt = o.lt ∧ m.lb = o.lb ∧ ss = ss') := ⟨_, rfl⟩
        have HLB := Hid.of hLB
        clear hLB
        go_wp2_with (first
        | (refine wpList_load_mid rfl 36 _ rfl p 0 rfl m.bare.cells _ HP.out Try.underlying36 rfl (by rw [mcells_len]; kernel_rfl) ?_)
        | (go_at_call 21; (with_reducible refine cb1.mono ?_); rintro e w7 ⟨rfl, hx7⟩; have HX7 := Hid.of hx7; have HQ7 := Hid.of (HQ.out.keep hx7 (by simp)).range; clear hx7 cb1)
        | (refine wpList_load_mid rfl 36 _ rfl q 0 rfl o.bare.cells _ HQ7.out Try.underlying36 rfl (by rw [mcells_len]; kernel_rfl) ?_)
        | (go_at_call 21; (with_reducible refine (cb2 _).mono ?_); rintro e w8 ⟨rfl, hx8⟩; have HX8 := Hid.of (HX7.out.then0 hx8); have k1 : w8.cell? ⟨p, 0, none⟩ = some (.int .i64 m.kind) := (HP6.out.keep HX8.out (by simp)).c 0; have k2 : w8.cell? ⟨q, 0, none⟩ = some (.int .i64 o.kind) := (HQ.out.keep HX8.out (by simp)).c 0; have b8 : w8.cell? ⟨G1, 8, none⟩ = some (.slice m.ea m.en m.ec) := (Hb1.out w8 HX8.out).c 8; have b11 : w8.cell? ⟨G1, 11, none⟩ = some (.int .i64 m.li) := (Hb1.out w8 HX8.out).c 11; have b12 : w8.cell? ⟨G1, 12, none⟩ = some (.int .i64 m.lt) := (Hb1.out w8 HX8.out).c 12; have b13 : w8.cell? ⟨G1, 13, none⟩ = some (.int .i64 m.lb) := (Hb1.out w8 HX8.out).c 13; have b14 : w8.cell? ⟨G1, 14, none⟩ = some (.slice m.sa m.sn m.sc) := (Hb1.out w8 HX8.out).c 14; have d8 : w8.cell? ⟨G1 + 1, 8, none⟩ = some (.slice o.ea o.en o.ec) := (Hb2.out w8 HX8.out).c 8; have d11 : w8.cell? ⟨G1 + 1, 11, none⟩ = some (.int .i64 o.li) := (Hb2.out w8 HX8.out).c 11; have d12 : w8.cell? ⟨G1 + 1, 12, none⟩ = some (.int .i64 o.lt) := (Hb2.out w8 HX8.out).c 12; have d13 : w8.cell? ⟨G1 + 1, 13, none⟩ = some (.int .i64 o.lb) := (Hb2.out w8 HX8.out).c 13; have d14 : w8.cell? ⟨G1 + 1, 14, none⟩ = some (.slice o.sa o.sn o.sc) := (Hb2.out w8 HX8.out).c 14; have HF := Hid.of (HXW.out.then0 (HX6.out.then0 HX8.out)); have ce := sents_any m.ea o.ea m.en m.ec o.en o.ec es es w8 (HM.out.ents.keep HF.out (by simp)) (HM'.out.ents.keep HF.out (by simp)); have cl := lsame_any m.li m.lt m.lb o.li o.lt o.lb m.sa o.sa m.sn m.sc o.sn o.sc ss ss'; clear hx8 cb2)
        | (go_at_call 39; (with_reducible refine ce.mono ?_); rintro e w9 ⟨rfl, hx9⟩; have HX9 := Hid.of (HX8.out.then0 hx9); have x11 : w9.cell? ⟨G1, 11, none⟩ = some (.int .i64 m.li) := (Hb1.out w9 HX9.out).c 11; have x12 : w9.cell? ⟨G1, 12, none⟩ = some (.int .i64 m.lt) := (Hb1.out w9 HX9.out).c 12; have x13 : w9.cell? ⟨G1, 13, none⟩ = some (.int .i64 m.lb) := (Hb1.out w9 HX9.out).c 13; have x14 : w9.cell? ⟨G1, 14, none⟩ = some (.slice m.sa m.sn m.sc) := (Hb1.out w9 HX9.out).c 14; have y11 : w9.cell? ⟨G1 + 1, 11, none⟩ = some (.int .i64 o.li) := (Hb2.out w9 HX9.out).c 11; have y12 : w9.cell? ⟨G1 + 1, 12, none⟩ = some (.int .i64 o.lt) := (Hb2.out w9 HX9.out).c 12; have y13 : w9.cell? ⟨G1 + 1, 13, none⟩ = some (.int .i64 o.lb) := (Hb2.out w9 HX9.out).c 13; have y14 : w9.cell? ⟨G1 + 1, 14, none⟩ = some (.slice o.sa o.sn o.sc) := (Hb2.out w9 HX9.out).c 14; have HF9 := Hid.of (HF.out.then0 hx9); have c9 := cl w9 (HM.out.sums.keep HF9.out (by simp)) (HM'.out.sums.keep HF9.out (by simp)); rw [← HLB.out] at c9; clear hx9 ce cl b8 b11 b12 b13 b14 d8 d11 d12 d13 d14 k1 k2)
        | (go_at_call 40; (with_reducible refine c9.mono ?_); rintro e w10 ⟨rfl, hx10⟩))
        go_ret
        rw [HF0.out, ← HLB.out]
        exact ⟨rfl, HF9.out.then0 hx10⟩
      · have HF0 : Hid (sameB (mv m es ss) (mv o es' ss') = false) := sameB_false (fun h => hes (HBE.out.1 h).2.1)
        go_wp2_with (first
        | (refine wpList_load_mid rfl 36 _ rfl p 0 rfl m.bare.cells _ HP.out Try.underlying36 rfl (by rw [mcells_len]; kernel_rfl) ?_)
        | (go_at_call 21; (with_reducible refine cb1.mono ?_); rintro e w7 ⟨rfl, hx7⟩; have HX7 := Hid.of hx7; have HQ7 := Hid.of (HQ.out.keep hx7 (by simp)).range; clear hx7 cb1)
        | (refine wpList_load_mid rfl 36 _ rfl q 0 rfl o.bare.cells _ HQ7.out Try.underlying36 rfl (by rw [mcells_len]; kernel_rfl) ?_)
        | (go_at_call 21; (with_reducible refine (cb2 _).mono ?_); rintro e w8 ⟨rfl, hx8⟩; have HX8 := Hid.of (HX7.out.then0 hx8); have k1 : w8.cell? ⟨p, 0, none⟩ = some (.int .i64 m.kind) := (HP6.out.keep HX8.out (by simp)).c 0; have k2 : w8.cell? ⟨q, 0, none⟩ = some (.int .i64 o.kind) := (HQ.out.keep HX8.out (by simp)).c 0; have b8 : w8.cell? ⟨G1, 8, none⟩ = some (.slice m.ea m.en m.ec) := (Hb1.out w8 HX8.out).c 8; have b11 : w8.cell? ⟨G1, 11, none⟩ = some (.int .i64 m.li) := (Hb1.out w8 HX8.out).c 11; have b12 : w8.cell? ⟨G1, 12, none⟩ = some (.int .i64 m.lt) := (Hb1.out w8 HX8.out).c 12; have b13 : w8.cell? ⟨G1, 13, none⟩ = some (.int .i64 m.lb) := (Hb1.out w8 HX8.out).c 13; have b14 : w8.cell? ⟨G1, 14, none⟩ = some (.slice m.sa m.sn m.sc) := (Hb1.out w8 HX8.out).c 14; have d8 : w8.cell? ⟨G1 + 1, 8, none⟩ = some (.slice o.ea o.en o.ec) := (Hb2.out w8 HX8.out).c 8; have d11 : w8.cell? ⟨G1 + 1, 11, none⟩ = some (.int .i64 o.li) := (Hb2.out w8 HX8.out).c 11; have d12 : w8.cell? ⟨G1 + 1, 12, none⟩ = some (.int .i64 o.lt) := (Hb2.out w8 HX8.out).c 12; have d13 : w8.cell? ⟨G1 + 1, 13, none⟩ = some (.int .i64 o.lb) := (Hb2.out w8 HX8.out).c 13; have d14 : w8.cell? ⟨G1 + 1, 14, none⟩ = some (.slice o.sa o.sn o.sc) := (Hb2.out w8 HX8.out).c 14; have HF := Hid.of (HXW.out.then0 (HX6.out.then0 HX8.out)); have ce := sents_any m.ea o.ea m.en m.ec o.en o.ec es es' w8 (HM.out.ents.keep HF.out (by simp)) (HM'.out.ents.keep HF.out (by simp)); have cl := lsame_any m.li m.lt m.lb o.li o.lt o.lb m.sa o.sa m.sn m.sc o.sn o.sc ss ss'; clear hx8 cb2)
        | (go_at_call 39; (with_reducible refine ce.mono ?_); rintro e w9 ⟨rfl, hx9⟩; have HX9 := Hid.of (HX8.out.then0 hx9); have x11 : w9.cell? ⟨G1, 11, none⟩ = some (.int .i64 m.li) := (Hb1.out w9 HX9.out).c 11; have x12 : w9.cell? ⟨G1, 12, none⟩ = some (.int .i64 m.lt) := (Hb1.out w9 HX9.out).c 12; have x13 : w9.cell? ⟨G1, 13, none⟩ = some (.int .i64 m.lb) := (Hb1.out w9 HX9.out).c 13; have x14 : w9.cell? ⟨G1, 14, none⟩ = some (.slice m.sa m.sn m.sc) := (Hb1.out w9 HX9.out).c 14; have y11 : w9.cell? ⟨G1 + 1, 11, none⟩ = some (.int .i64 o.li) := (Hb2.out w9 HX9.out).c 11; have y12 : w9.cell? ⟨G1 + 1, 12, none⟩ = some (.int .i64 o.lt) := (Hb2.out w9 HX9.out).c 12; have y13 : w9.cell? ⟨G1 + 1, 13, none⟩ = some (.int .i64 o.lb) := (Hb2.out w9 HX9.out).c 13; have y14 : w9.cell? ⟨G1 + 1, 14, none⟩ = some (.slice o.sa o.sn o.sc) := (Hb2.out w9 HX9.out).c 14; have HF9 := Hid.of (HF.out.then0 hx9); have c9 := cl w9 (HM.out.sums.keep HF9.out (by simp)) (HM'.out.sums.keep HF9.out (by simp)); clear hx9 ce cl b8 b11 b12 b13 b14 d8 d11 d12 d13 d14 k1 k2))
        go_ret
        rw [HF0.out]
        exact ⟨rfl, HF9.out⟩
    · have HF0 : Hid (sameB (mv m es ss) (mv o es' ss') = false) := sameB_false (fun h => hXY (HBE.out.1 h).1)
      go_wp2_with (first
      | (refine wpList_load_mid rfl 36 _ rfl p 0 rfl m.bare.cells _ HP.out Try.underlying36 rfl (by rw [mcells_len]; kernel_rfl) ?_)
      | (go_at_call 21; (with_reducible refine cb1.mono ?_); rintro e w7 ⟨rfl, hx7⟩; have HX7 := Hid.of hx7; have HQ7 := Hid.of (HQ.out.keep hx7 (by simp)).range; clear hx7 cb1)
      | (refine wpList_load_mid rfl 36 _ rfl q 0 rfl o.bare.cells _ HQ7.out Try.underlying36 rfl (by rw [mcells_len]; kernel_rfl) ?_)
      | (go_at_call 21; (with_reducible refine (cb2 _).mono ?_); rintro e w8 ⟨rfl, hx8⟩; have HX8 := Hid.of (HX7.out.then0 hx8); have k1 : w8.cell? ⟨p, 0, none⟩ = some (.int .i64 m.kind) := (HP6.out.keep HX8.out (by simp)).c 0; have k2 : w8.cell? ⟨q, 0, none⟩ = some (.int .i64 o.kind) := (HQ.out.keep HX8.out (by simp)).c 0; have b8 : w8.cell? ⟨G1, 8, none⟩ = some (.slice m.ea m.en m.ec) := (Hb1.out w8 HX8.out).c 8; have b11 : w8.cell? ⟨G1, 11, none⟩ = some (.int .i64 m.li) := (Hb1.out w8 HX8.out).c 11; have b12 : w8.cell? ⟨G1, 12, none⟩ = some (.int .i64 m.lt) := (Hb1.out w8 HX8.out).c 12; have b13 : w8.cell? ⟨G1, 13, none⟩ = some (.int .i64 m.lb) := (Hb1.out w8 HX8.out).c 13; have b14 : w8.cell? ⟨G1, 14, none⟩ = some (.slice m.sa m.sn m.sc) := (Hb1.out w8 HX8.out).c 14; have d8 : w8.cell? ⟨G1 + 1, 8, none⟩ = some (.slice o.ea o.en o.ec) := (Hb2.out w8 HX8.out).c 8; have d11 : w8.cell? ⟨G1 + 1, 11, none⟩ = some (.int .i64 o.li) := (Hb2.out w8 HX8.out).c 11; have d12 : w8.cell? ⟨G1 + 1, 12, none⟩ = some (.int .i64 o.lt) := (Hb2.out w8 HX8.out).c 12; have d13 : w8.cell? ⟨G1 + 1, 13, none⟩ = some (.int .i64 o.lb) := (Hb2.out w8 HX8.out).c 13; have d14 : w8.cell? ⟨G1 + 1, 14, none⟩ = some (.slice o.sa o.sn o.sc) := (Hb2.out w8 HX8.out).c 14; have HF := Hid.of (HXW.out.then0 (HX6.out.then0 HX8.out)); have ce := sents_any m.ea o.ea m.en m.ec o.en o.ec es es' w8 (HM.out.ents.keep HF.out (by simp)) (HM'.out.ents.keep HF.out (by simp)); have cl := lsame_any m.li m.lt m.lb o.li o.lt o.lb m.sa o.sa m.sn m.sc o.sn o.sc ss ss'; clear hx8 cb2))
      go_ret
      rw [HF0.out]
      exact ⟨rfl, HF.out⟩
end Go.Proofs.Ytaekkkcgoegllaa
