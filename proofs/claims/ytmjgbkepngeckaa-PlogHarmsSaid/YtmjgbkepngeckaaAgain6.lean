/- Layer 6's statements: Again, where all is safe. (Printed by wip/gen_again6.py.) -/
import Derived.Test.YtmjgbkepngeckaaRingW
namespace Go.Proofs.Ytmjgbkepngeckaa
open Go.RowKit
set_option linter.unusedVariables false
set_option linter.unusedSimpArgs false

/-- Opened on the new device: the world's block is behind. -/
def AgMid (w0 wr w : World) (wq b q' : Nat) (first : Int) (all : List Ent) (O : List Nat) : Prop :=
  Kept (wq :: O) wr w ∧ ∃ L V, LgX w0 w q' b L 19 V (wq :: O) ∧ Solid L V all ∧ L.base = 3 ∧ L.size = 8 ∧ L.first = first
def ag2Φ (wq b2 : Nat) (first : Int) (n : Nat) (y : Value) (w : World) : Prop :=
  match n with
  | 0 => y = .pointer (some ⟨wq, 0, none⟩)
  | 1 => y = .pointer (some ⟨wq, 0, none⟩)
  | 2 => y = .pointer (some ⟨wq, 0, none⟩)
  | 3 => y = .pointer (some ⟨b2, 0, none⟩)
  | 4 => y = .pointer (some ⟨wq, 0, none⟩)
  | 5 => y = .pointer (some ⟨wq, 0, none⟩)
  | 6 => y = .pointer (some ⟨wq, 2, none⟩)
  | 7 => y = .int .i64 first
  | _ => True
def ag2ΦT (wq b2 : Nat) (first : Int) (n : Nat) (y : Value) : Prop :=
  match n with
  | 0 => y = .pointer (some ⟨wq, 0, none⟩)
  | 1 => y = .pointer (some ⟨wq, 0, none⟩)
  | 2 => y = .pointer (some ⟨wq, 0, none⟩)
  | 3 => y = .pointer (some ⟨b2, 0, none⟩)
  | 4 => y = .pointer (some ⟨wq, 0, none⟩)
  | 5 => y = .pointer (some ⟨wq, 0, none⟩)
  | 6 => y = .pointer (some ⟨wq, 2, none⟩)
  | 7 => y = .int .i64 first
  | _ => True
set_option maxRecDepth 100000 in
set_option maxHeartbeats 12800000 in
theorem again_c {w0 w : World} {wq b q : Nat} {first : Int} {vm : Value} {all : List Ent} {O : List Nat} {a : Option Addr} {cap : Nat} (h : RSt w0 w wq b q first vm all O a cap) (fa : Option Addr) (fl fc : Nat) (fs : List Int) (hF : Rd w 1 (.slice fa fl fc) fl (fs.map (Value.int .i64))) :
    Calls Try.prog 25 #[.pointer (some ⟨wq, 0, none⟩), .slice fa fl fc] w fun e w' => e = .returned (.bool true) ∧ ∃ b' q', RSt w0 w' wq b' q' first (.slice none 0 0) all O a cap ∧ Kept (vblocks (.slice a all.length cap) ++ O) w w' := by
  obtain ⟨f1, f2⟩ := h.1.first_rng
  have hq0 := h.1.new0
  have h8 := h.1.len
  have hR := h.2
  obtain ⟨len, hlen⟩ : ∃ x, x = all.length := ⟨_, rfl⟩
  obtain ⟨O1, hO1⟩ : ∃ x, x = vblocks (.slice a all.length cap) ++ O := ⟨_, rfl⟩
  have hh := h.1
  rw [← hO1] at hh hq0 ⊢
  obtain ⟨L, V, hW, hSo, e1, e2, e3⟩ := hh
  have hlt : ∀ z ∈ wq :: O1, z < w.heap.size := hW.log.lt
  have hbw := hW.blk
  rw [← hlen] at h8
  have HLO := Hid.of (And.intro hlen hO1)
  have HR := Hid.of hR
  have HB := Hid.of hbw
  have HSo := Hid.of (And.intro hSo (And.intro e1 (And.intro e2 e3)))
  have hcr := crash_x hW.log.dev (by omega) fa fl fc fs hF (wq :: O1) hlt
  have hva : ∃ va, va = Value.slice a all.length cap := ⟨_, rfl⟩
  obtain ⟨va, hva⟩ := hva
  rw [← hva] at hbw HB
  have HVa := Hid.of hva
  have c0 : w.cell? ⟨wq, 0, none⟩ = some (.pointer (some ⟨b, 0, none⟩)) := Blk.c hbw 0
  clear h hR hW hSo e1 e2 e3 hlt hO1 hlen hva hbw hF
  go_enter Try.func25, Try.ntmps25
  go_upto_region 2 with (first
    | (go_at_call 24; (with_reducible refine hcr.mono ?_); rintro e w1 ⟨b2, rfl, hd1, hx1⟩; have HD1 := Hid.of hd1; have HX1 := Hid.of hx1; have hb1 := Blk.keep HB.out hx1 List.not_mem_nil; have c01 : w1.cell? ⟨wq, 0, none⟩ = some (.pointer (some ⟨b, 0, none⟩)) := Blk.c hb1 0; have f01 := Blk.f hb1 0; have HB1 := Hid.of hb1; clear hd1 hx1 hb1 hcr c0))
  obtain ⟨w2, hw2⟩ : ∃ W, W = w1.setCell ⟨wq, 0, none⟩ (.pointer (some ⟨b2, 0, none⟩)) := ⟨_, rfl⟩
  have hx2 : Ext [wq] w1 w2 := by rw [hw2]; exact (Ext.refl [wq] w1).setCell (.inl (by simp)) _
  have hb2 : Blk w2 wq 35 [.pointer (some ⟨b2, 0, none⟩), .pointer (some ⟨q, 0, none⟩), .int .i64 first, va, vm] := by rw [hw2]; exact Blk.set HB1.out 0 _
  have hd2 := HD1.out.other hx2 (by simp) hq0.1
  have cO : ∀ w', Ext [] w2 w' → Calls Try.prog 20 #[.pointer (some ⟨b2, 0, none⟩), .int .i64 3, .int .i64 8, .int .i64 first] w' fun e w3 => ∃ q', e = .returned (.tuple #[.pointer (some ⟨q', 0, none⟩), .int .i64 0]) ∧ AgMid w0 w2 w3 wq b2 q' first all O1 := by
    intro w' hx
    refine (open_s (hd2.keep hx) HSo.out.1 3 8 first HSo.out.2.1 HSo.out.2.2.1 HSo.out.2.2.2 (by omega) (by omega) (by omega) f1 f2).mono ?_
    rintro e w3 ⟨q', L', V', he, hl, hk, hS, g1, g2, g3⟩
    exact ⟨q', he, (Kept.of hx).trans hk, L', V', hl, hS, g1, g2, g3⟩
  have c0 := fun w' (hx : Ext [] w2 w') => Blk.c (Blk.keep hb2 hx List.not_mem_nil) 0
  have c2 := fun w' (hx : Ext [] w2 w') => Blk.c (Blk.keep hb2 hx List.not_mem_nil) 2
  simp only [List.getElem?_cons_zero, List.getElem?_cons_succ] at c0 c2
  have HB2 := Hid.of hb2
  have HK2 : Hid (Kept O1 w w2) := Hid.of ((Kept.of HX1.out).trans (fun z hz o ho => hx2.heap (fun hm => by simp at hm; exact hq0.2.2 (hm ▸ hz)) ho))
  have HCO := Hid.of cO
  rw [← hw2]
  clear hw2 hx2 hb2 hd2 c01 f01 cO HD1 HB1 HX1
  have cO := HCO.out
  refine wp_region_stepsm [18, 19, 20, 21, 22, 23, 24, 25, 26, 17, 27, 28, 5, 6] 8 (ag2Φ wq b2 first) (ag2ΦT wq b2 first) (fun v w => ∃ q', v = .tuple #[.pointer (some ⟨q', 0, none⟩), .int .i64 0] ∧ AgMid w0 w2 w wq b2 q' first all O1) (fun v n y => match n with | 9 => y = v | 10 => y = tupAt v 0 | 11 => y = tupAt v 1 | 12 => y = tupAt v 0 | 13 => y = tupAt v 1 | _ => True) (by kernel_rfl) (by kernel_rfl) (fun n y w w' h hx => h) (fun n y w' hn h => by unfold ag2Φ at h; unfold ag2ΦT; split at h <;> first | exact h | trivial) ?hst_2 ?hend_2
  case hst_2 =>
    refine ⟨?f0_2, ?f1_2, ?f2_2, ?f3_2, ?f4_2, ?f5_2, ?f6_2, ?f7_2, ?f8_2, ?f9_2, ?f10_2, ?f11_2, ?f12_2, ?f13_2, trivial⟩
    case f0_2 =>
      refine (if_pos (by decide)).mpr ?_
      intro g w' hx hd hb
      refine op_run rfl ?_
      generalize hA : mkAct _ _ g = A
      have h0 : A.tmps[0]?.getD undef = .pointer (some ⟨wq, 0, none⟩) := by rw [← hA]; exact mkAct_out2 _ _ _ _ _ rfl rfl
      refine step_val (v := .pointer (some ⟨wq, 0, none⟩)) (w' := w') ?_ ⟨_, rfl, Ext.refl _ _, rfl⟩
      simp [execOp, h0, Result.andThen, go_sem]
    case f1_2 =>
      refine (if_pos (by decide)).mpr ?_
      intro g w' hx hd hb
      refine op_run rfl ?_
      have e18 : g 18 = .pointer (some ⟨wq, 0, none⟩) := hd ⟨0, .data⟩ (by simp) rfl
      generalize hA : mkAct _ _ g = A
      have h18 : A.tmps[18]?.getD undef = .pointer (some ⟨wq, 0, none⟩) := by rw [← hA, mkAct_in2 _ _ _ _ rfl rfl]; exact e18
      refine step_val (v := .pointer (some ⟨wq, 0, none⟩)) (w' := w') ?_ ⟨_, rfl, Ext.refl _ _, rfl⟩
      simp [execOp, h18, Result.andThen, go_sem]
    case f2_2 =>
      refine (if_pos (by decide)).mpr ?_
      intro g w' hx hd hb
      refine op_run rfl ?_
      have e19 : g 19 = .pointer (some ⟨wq, 0, none⟩) := hd ⟨1, .data⟩ (by simp) rfl
      generalize hA : mkAct _ _ g = A
      have h19 : A.tmps[19]?.getD undef = .pointer (some ⟨wq, 0, none⟩) := by rw [← hA, mkAct_in2 _ _ _ _ rfl rfl]; exact e19
      refine step_val (v := .pointer (some ⟨wq, 0, none⟩)) (w' := w') ?_ ⟨_, rfl, Ext.refl _ _, rfl⟩
      simp [execOp, h19, Result.andThen, go_sem]
    case f3_2 =>
      refine (if_pos (by decide)).mpr ?_
      intro g w' hx hd hb
      refine op_run rfl ?_
      have e20 : g 20 = .pointer (some ⟨wq, 0, none⟩) := hd ⟨2, .data⟩ (by simp) rfl
      generalize hA : mkAct _ _ g = A
      have h20 : A.tmps[20]?.getD undef = .pointer (some ⟨wq, 0, none⟩) := by rw [← hA, mkAct_in2 _ _ _ _ rfl rfl]; exact e20
      have c := c0 w' hx
      refine step_val (v := .pointer (some ⟨b2, 0, none⟩)) (w' := w') ?_ ⟨_, rfl, Ext.refl _ _, rfl⟩
      simp [execOp, h20, c, Result.andThen, go_sem]
    case f4_2 =>
      refine (if_pos (by decide)).mpr ?_
      intro g w' hx hd hb
      refine op_run rfl ?_
      generalize hA : mkAct _ _ g = A
      have h0 : A.tmps[0]?.getD undef = .pointer (some ⟨wq, 0, none⟩) := by rw [← hA]; exact mkAct_out2 _ _ _ _ _ rfl rfl
      refine step_val (v := .pointer (some ⟨wq, 0, none⟩)) (w' := w') ?_ ⟨_, rfl, Ext.refl _ _, rfl⟩
      simp [execOp, h0, Result.andThen, go_sem]
    case f5_2 =>
      refine (if_pos (by decide)).mpr ?_
      intro g w' hx hd hb
      refine op_run rfl ?_
      have e22 : g 22 = .pointer (some ⟨wq, 0, none⟩) := hd ⟨4, .data⟩ (by simp) rfl
      generalize hA : mkAct _ _ g = A
      have h22 : A.tmps[22]?.getD undef = .pointer (some ⟨wq, 0, none⟩) := by rw [← hA, mkAct_in2 _ _ _ _ rfl rfl]; exact e22
      refine step_val (v := .pointer (some ⟨wq, 0, none⟩)) (w' := w') ?_ ⟨_, rfl, Ext.refl _ _, rfl⟩
      simp [execOp, h22, Result.andThen, go_sem]
    case f6_2 =>
      refine (if_pos (by decide)).mpr ?_
      intro g w' hx hd hb
      refine op_run rfl ?_
      have e23 : g 23 = .pointer (some ⟨wq, 0, none⟩) := hd ⟨5, .data⟩ (by simp) rfl
      generalize hA : mkAct _ _ g = A
      have h23 : A.tmps[23]?.getD undef = .pointer (some ⟨wq, 0, none⟩) := by rw [← hA, mkAct_in2 _ _ _ _ rfl rfl]; exact e23
      refine step_val (v := .pointer (some ⟨wq, 2, none⟩)) (w' := w') ?_ ⟨_, rfl, Ext.refl _ _, rfl⟩
      simp [execOp, h23, Result.andThen, go_sem]
    case f7_2 =>
      refine (if_pos (by decide)).mpr ?_
      intro g w' hx hd hb
      refine op_run rfl ?_
      have e24 : g 24 = .pointer (some ⟨wq, 2, none⟩) := hd ⟨6, .data⟩ (by simp) rfl
      generalize hA : mkAct _ _ g = A
      have h24 : A.tmps[24]?.getD undef = .pointer (some ⟨wq, 2, none⟩) := by rw [← hA, mkAct_in2 _ _ _ _ rfl rfl]; exact e24
      have c := c2 w' hx
      refine step_val (v := .int .i64 first) (w' := w') ?_ ⟨_, rfl, Ext.refl _ _, rfl⟩
      simp [execOp, h24, c, Result.andThen, go_sem]
    case f8_2 =>
      refine (if_neg (by decide)).mpr ((if_pos rfl).mpr ?_)
      intro g w' hx hd hb
      refine op_run rfl ?_
      have e21 : g 21 = .pointer (some ⟨b2, 0, none⟩) := hd 3 (by decide)
      have e25 : g 25 = .int .i64 first := hd 7 (by decide)
      generalize hA : mkAct _ _ g = A
      have h21 : A.tmps[21]?.getD undef = .pointer (some ⟨b2, 0, none⟩) := by rw [← hA, mkAct_in2 _ _ _ _ rfl rfl]; exact e21
      have h25 : A.tmps[25]?.getD undef = .int .i64 first := by rw [← hA, mkAct_in2 _ _ _ _ rfl rfl]; exact e25
      refine mid_k (fun K hK => ?_)
      go_simp
      refine (cO w' hx).mono ?_
      rintro e w2 ⟨q', rfl, hO2⟩
      exact hK (.tuple #[.pointer (some ⟨q', 0, none⟩), .int .i64 0]) w2 ⟨q', rfl, hO2⟩
    case f9_2 =>
      refine (if_neg (by decide)).mpr ((if_neg (by decide)).mpr ?_)
      intro g v w' hM hT hv hd
      refine op_run rfl ?_
      obtain ⟨q', rfl, -⟩ := hM
      have e26 := hv (Option.some_ne_none _)
      replace e26 : g 26 = _ := e26
      generalize hA : mkAct _ _ g = A
      have h26 : A.tmps[26]?.getD undef = g 26 := by rw [← hA]; exact mkAct_in2 _ _ _ _ rfl rfl
      rw [e26] at h26
      refine step_val (w' := w') ?_ ⟨_, rfl, rfl, rfl⟩
      simp [execOp, h26, tupAt, Result.andThen, go_sem]
    case f10_2 =>
      refine (if_neg (by decide)).mpr ((if_neg (by decide)).mpr ?_)
      intro g v w' hM hT hv hd
      refine op_run rfl ?_
      obtain ⟨q', rfl, -⟩ := hM
      have e17 := hd ⟨9, .data⟩ (by simp) rfl (by decide)
      replace e17 : g 17 = _ := e17
      generalize hA : mkAct _ _ g = A
      have h17 : A.tmps[17]?.getD undef = g 17 := by rw [← hA]; exact mkAct_in2 _ _ _ _ rfl rfl
      rw [e17] at h17
      refine step_val (w' := w') ?_ ⟨_, rfl, rfl, rfl⟩
      simp [execOp, h17, tupAt, Result.andThen, go_sem]
    case f11_2 =>
      refine (if_neg (by decide)).mpr ((if_neg (by decide)).mpr ?_)
      intro g v w' hM hT hv hd
      refine op_run rfl ?_
      obtain ⟨q', rfl, -⟩ := hM
      have e17 := hd ⟨9, .data⟩ (by simp) rfl (by decide)
      replace e17 : g 17 = _ := e17
      generalize hA : mkAct _ _ g = A
      have h17 : A.tmps[17]?.getD undef = g 17 := by rw [← hA]; exact mkAct_in2 _ _ _ _ rfl rfl
      rw [e17] at h17
      refine step_val (w' := w') ?_ ⟨_, rfl, rfl, rfl⟩
      simp [execOp, h17, tupAt, Result.andThen, go_sem]
    case f12_2 =>
      refine (if_neg (by decide)).mpr ((if_neg (by decide)).mpr ?_)
      intro g v w' hM hT hv hd
      refine op_run rfl ?_
      obtain ⟨q', rfl, -⟩ := hM
      have e27 := hd ⟨10, .data⟩ (by simp) rfl (by decide)
      replace e27 : g 27 = _ := e27
      generalize hA : mkAct _ _ g = A
      have h27 : A.tmps[27]?.getD undef = g 27 := by rw [← hA]; exact mkAct_in2 _ _ _ _ rfl rfl
      rw [e27] at h27
      refine step_val (w' := w') ?_ ⟨_, rfl, rfl, rfl⟩
      simp [execOp, h27, tupAt, Result.andThen, go_sem]
    case f13_2 =>
      refine (if_neg (by decide)).mpr ((if_neg (by decide)).mpr ?_)
      intro g v w' hM hT hv hd
      refine op_run rfl ?_
      obtain ⟨q', rfl, -⟩ := hM
      have e28 := hd ⟨11, .data⟩ (by simp) rfl (by decide)
      replace e28 : g 28 = _ := e28
      generalize hA : mkAct _ _ g = A
      have h28 : A.tmps[28]?.getD undef = g 28 := by rw [← hA]; exact mkAct_in2 _ _ _ _ rfl rfl
      rw [e28] at h28
      refine step_val (w' := w') ?_ ⟨_, rfl, rfl, rfl⟩
      simp [execOp, h28, tupAt, Result.andThen, go_sem]
  intro g v wn hM hT hv hd
  obtain ⟨q', rfl, hA⟩ := hM
  have e5 : g 5 = .pointer (some ⟨q', 0, none⟩) := hd 12 (by decide) (by decide)
  have e6 : g 6 = .int .i64 0 := hd 13 (by decide) (by decide)
  clear hd hv hT cO c0 c2 HCO
  unfold mkAct; simp only [List.zipIdx_cons, List.zipIdx_nil, List.map_cons, List.map_nil, Nat.zero_add, Nat.reduceAdd, List.contains_cons, List.contains_nil, Nat.reduceBEq, Bool.or_false, Bool.or_true, ↓reduceIte, Bool.false_eq_true]
  rw [e5, e6]
  clear e5 e6
  have hbn := hA.1.blk HB2.out (by simp)
  have d1 : wn.cell? ⟨wq, 1, none⟩ = some (.pointer (some ⟨q, 0, none⟩)) := Blk.c hbn 1
  have g1 := Blk.f hbn 1
  go_upto_region 6 with fail
  obtain ⟨w5, hw5⟩ : ∃ W, W = wn.setCell ⟨wq, 1, none⟩ (.pointer (some ⟨q', 0, none⟩)) := ⟨_, rfl⟩
  have hx5 : Ext [wq] wn w5 := by rw [hw5]; exact (Ext.refl [wq] wn).setCell (.inl (by simp)) _
  have hb5 : Blk w5 wq 35 [.pointer (some ⟨b2, 0, none⟩), .pointer (some ⟨q', 0, none⟩), .int .i64 first, va, vm] := by rw [hw5]; exact Blk.set hbn 1 _
  obtain ⟨hk3, L', V', hl3, hS3, g31, g32, g33⟩ := hA
  have hSt5 : St w0 w5 wq b2 q' first va vm all O1 := ⟨L', V', ⟨hb5, hl3.other hx5 (by simp) hq0.1, hq0.1, hq0.2.2⟩, hS3, g31, g32, g33⟩
  have hk5 : Kept O1 w w5 := (HK2.out.trans (hk3.sub (fun z hz => by simp [hz]))).trans (fun z hz o ho => hx5.heap (fun hm => by simp at hm; exact hq0.2.2 (hm ▸ hz)) ho)
  have hR5 := hk5.rd HR.out (fun z hz => by rw [HLO.out.2]; simp [hz])
  obtain ⟨q2, hq2⟩ : ∃ x, x = q' := ⟨_, rfl⟩
  rw [← hq2] at hSt5 hb5 hw5 ⊢
  have kL := fun w' (hx : Ext [] w5 w') => (hSt5.keep hx).last_c
  rw [← HLO.out.1] at kL
  have c2 := fun w' (hx : Ext [] w5 w') => Blk.c (Blk.keep hb5 hx List.not_mem_nil) 2
  simp only [List.getElem?_cons_zero, List.getElem?_cons_succ] at c2
  have HSt5 := Hid.of hSt5
  have HK5 := Hid.of hk5
  have HR5 := Hid.of hR5
  rw [← hw5]
  clear hw5 hx5 hb5 hk3 hl3 hS3 g31 g32 g33 hSt5 hk5 hR5 hq2 hbn d1 g1 HB2 HK2
  refine wp_region_stepsg [35, 36, 37, 38, 39, 40, 41, 42, 7] (fun n y _ => match n with | 0 => y = .pointer (some ⟨q2, 0, none⟩) | 1 => y = .int .i64 (first + (len : Int) - 1) | 2 => y = .pointer (some ⟨wq, 0, none⟩) | 3 => y = .pointer (some ⟨wq, 0, none⟩) | 4 => y = .pointer (some ⟨wq, 2, none⟩) | 5 => y = .int .i64 first | 6 => y = .int .i64 ((len : Int) - 1) | 7 => y = .int .i64 (len) | 8 => y = .int .i64 (len) | _ => True) (by kernel_rfl) (by kernel_rfl) (fun n y w1 w2 h hx => h) ?_ ?_
  · refine ⟨?f0_6, ?f1_6, ?f2_6, ?f3_6, ?f4_6, ?f5_6, ?f6_6, ?f7_6, ?f8_6, trivial⟩
    case f0_6 =>
      intro g w' hx hd
      refine op_run rfl ?_
      generalize hA : mkAct _ _ g = A
      have h5 : A.tmps[5]?.getD undef = .pointer (some ⟨q2, 0, none⟩) := by rw [← hA]; exact mkAct_out2 _ _ _ _ _ rfl rfl
      refine step_val (v := .pointer (some ⟨q2, 0, none⟩)) (w' := w') ?_ ⟨_, rfl, Ext.refl _ _, rfl⟩
      simp [execOp, h5, Result.andThen, go_sem]
    case f1_6 =>
      intro g w' hx hd
      refine op_run rfl ?_
      have e35 : g 35 = .pointer (some ⟨q2, 0, none⟩) := hd ⟨0, .data⟩ (by simp) rfl
      generalize hA : mkAct _ _ g = A
      have h35 : A.tmps[35]?.getD undef = .pointer (some ⟨q2, 0, none⟩) := by rw [← hA, mkAct_in2 _ _ _ _ rfl rfl]; exact e35
      refine float_k (fun K hK => ?_)
      go_simp
      refine (kL w' hx).mono ?_
      rintro e w2 ⟨rfl, hx2⟩
      exact hK (.int .i64 (first + (len : Int) - 1)) w2 hx2 rfl
    case f2_6 =>
      intro g w' hx hd
      refine op_run rfl ?_
      generalize hA : mkAct _ _ g = A
      have h0 : A.tmps[0]?.getD undef = .pointer (some ⟨wq, 0, none⟩) := by rw [← hA]; exact mkAct_out2 _ _ _ _ _ rfl rfl
      refine step_val (v := .pointer (some ⟨wq, 0, none⟩)) (w' := w') ?_ ⟨_, rfl, Ext.refl _ _, rfl⟩
      simp [execOp, h0, Result.andThen, go_sem]
    case f3_6 =>
      intro g w' hx hd
      refine op_run rfl ?_
      have e37 : g 37 = .pointer (some ⟨wq, 0, none⟩) := hd ⟨2, .data⟩ (by simp) rfl
      generalize hA : mkAct _ _ g = A
      have h37 : A.tmps[37]?.getD undef = .pointer (some ⟨wq, 0, none⟩) := by rw [← hA, mkAct_in2 _ _ _ _ rfl rfl]; exact e37
      refine step_val (v := .pointer (some ⟨wq, 0, none⟩)) (w' := w') ?_ ⟨_, rfl, Ext.refl _ _, rfl⟩
      simp [execOp, h37, Result.andThen, go_sem]
    case f4_6 =>
      intro g w' hx hd
      refine op_run rfl ?_
      have e38 : g 38 = .pointer (some ⟨wq, 0, none⟩) := hd ⟨3, .data⟩ (by simp) rfl
      generalize hA : mkAct _ _ g = A
      have h38 : A.tmps[38]?.getD undef = .pointer (some ⟨wq, 0, none⟩) := by rw [← hA, mkAct_in2 _ _ _ _ rfl rfl]; exact e38
      refine step_val (v := .pointer (some ⟨wq, 2, none⟩)) (w' := w') ?_ ⟨_, rfl, Ext.refl _ _, rfl⟩
      simp [execOp, h38, Result.andThen, go_sem]
    case f5_6 =>
      intro g w' hx hd
      refine op_run rfl ?_
      have e39 : g 39 = .pointer (some ⟨wq, 2, none⟩) := hd ⟨4, .data⟩ (by simp) rfl
      generalize hA : mkAct _ _ g = A
      have h39 : A.tmps[39]?.getD undef = .pointer (some ⟨wq, 2, none⟩) := by rw [← hA, mkAct_in2 _ _ _ _ rfl rfl]; exact e39
      have c := c2 w' hx
      refine step_val (v := .int .i64 first) (w' := w') ?_ ⟨_, rfl, Ext.refl _ _, rfl⟩
      simp [execOp, h39, c, Result.andThen, go_sem]
    case f6_6 =>
      intro g w' hx hd
      refine op_run rfl ?_
      have e36 : g 36 = .int .i64 (first + (len : Int) - 1) := hd ⟨1, .data⟩ (by simp) rfl
      have e40 : g 40 = .int .i64 first := hd ⟨5, .data⟩ (by simp) rfl
      generalize hA : mkAct _ _ g = A
      have h36 : A.tmps[36]?.getD undef = .int .i64 (first + (len : Int) - 1) := by rw [← hA, mkAct_in2 _ _ _ _ rfl rfl]; exact e36
      have h40 : A.tmps[40]?.getD undef = .int .i64 first := by rw [← hA, mkAct_in2 _ _ _ _ rfl rfl]; exact e40
      refine step_val (v := .int .i64 ((len : Int) - 1)) (w' := w') ?_ ⟨_, rfl, Ext.refl _ _, rfl⟩
      simp [execOp, h36, h40, Result.andThen, go_sem]
      rw [show first + (len : Int) - 1 - first = (len : Int) - 1 by omega]
      exact IntWalk.i64_in _ ⟨by omega, by omega⟩
    case f7_6 =>
      intro g w' hx hd
      refine op_run rfl ?_
      have e41 : g 41 = .int .i64 ((len : Int) - 1) := hd ⟨6, .data⟩ (by simp) rfl
      generalize hA : mkAct _ _ g = A
      have h41 : A.tmps[41]?.getD undef = .int .i64 ((len : Int) - 1) := by rw [← hA, mkAct_in2 _ _ _ _ rfl rfl]; exact e41
      refine step_val (v := .int .i64 (len)) (w' := w') ?_ ⟨_, rfl, Ext.refl _ _, rfl⟩
      simp [execOp, h41, Result.andThen, go_sem]
      (first | done | (rw [IntWalk.i64_in _ ⟨by omega, by omega⟩]))
    case f8_6 =>
      intro g w' hx hd
      refine op_run rfl ?_
      have e42 : g 42 = .int .i64 (len) := hd ⟨7, .data⟩ (by simp) rfl
      generalize hA : mkAct _ _ g = A
      have h42 : A.tmps[42]?.getD undef = .int .i64 (len) := by rw [← hA, mkAct_in2 _ _ _ _ rfl rfl]; exact e42
      refine step_val (v := .int .i64 (len)) (w' := w') ?_ ⟨_, rfl, Ext.refl _ _, rfl⟩
      simp [execOp, h42, Result.andThen, go_sem]
  intro g wn hxn hd
  have e7 : g 7 = .int .i64 (len) := hd 8 (by decide)
  clear hd c2 kL
  unfold mkAct; simp only [List.zipIdx_cons, List.zipIdx_nil, List.map_cons, List.map_nil, Nat.zero_add, Nat.reduceAdd, List.contains_cons, List.contains_nil, Nat.reduceBEq, Bool.or_false, Bool.or_true, ↓reduceIte, Bool.false_eq_true]
  rw [e7]
  clear e7
  have HSt6 := Hid.of (HSt5.out.keep hxn)
  have HK6 := Hid.of (HK5.out.trans (Kept.of hxn))
  have HR6 := Hid.of (HR5.out.keep hxn (by simp))
  have c3 : wn.cell? ⟨wq, 3, none⟩ = some (.slice a len cap) := by rw [Blk.c HSt6.out.blk 3, HVa.out, ← HLO.out.1]; rfl
  have c4 : wn.cell? ⟨wq, 4, none⟩ = some vm := Blk.c HSt6.out.blk 4
  have f4 := Blk.f HSt6.out.blk 4
  have hfin := HSt6.out.setMay (.slice none 0 0)
  have hRf : RSt w0 (wn.setCell ⟨wq, 4, none⟩ (.slice none 0 0)) wq b2 q2 first (.slice none 0 0) all O a cap := by
    refine ⟨?_, hfin.2.rd HR6.out (fun z hz => by rw [HLO.out.2]; simp [hz])⟩
    rw [← HLO.out.2, ← HVa.out]
    exact hfin.1
  have cS := hRf.shows
  have HRf := Hid.of hRf
  have HKf := Hid.of (HK6.out.trans hfin.2)
  clear hRf hfin hxn HSt5 HK5 HR5
  go_wp2_with (first
    | (go_at_call 23; (with_reducible refine cS.mono ?_); rintro e w7 ⟨rfl, hx7⟩; have HS7 := Hid.of (HRf.out.keep hx7); have HK7 := Hid.of (HKf.out.trans (Kept.of hx7)); clear hx7 cS))
  go_ret
  exact ⟨rfl, b2, q2, HS7.out, HK7.out⟩
end Go.Proofs.Ytmjgbkepngeckaa
