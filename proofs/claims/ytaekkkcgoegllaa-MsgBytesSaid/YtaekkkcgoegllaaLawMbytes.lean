/- Law 14, MsgBytes. (Printed by wip/gen_mbytes.py.) -/
import Derived.Test.YtaekkkcgoegllaaLawMturned
namespace Go.Proofs.Ytaekkkcgoegllaa
open Go.RowKit
set_option linter.unusedVariables false
set_option linter.unusedSimpArgs false
attribute [local go_sem] i64_and65535

def mb19Φ (B0 : Nat) (X : Nat) (v4 : Value) (xi xt : Int) (xd L0 L1 L2 L3 : List UInt8) (n : Nat) (yy : Value) (w : World) : Prop :=
  match n with
  | 0 => yy = v4
  | 1 => yy = .pointer (some ⟨X, 0, none⟩)
  | 2 => yy = .int .i64 xi
  | 3 => ∃ p, B0 ≤ p ∧ yy = .slice (some ⟨p, 0, none⟩) 1 1 ∧ Rd w 1 yy 1 (([xi]).map (Value.int .i64))
  | 5 => yy = .pointer (some ⟨X, 1, none⟩)
  | 6 => yy = .int .i64 xt
  | 7 => ∃ p, B0 ≤ p ∧ yy = .slice (some ⟨p, 0, none⟩) 1 1 ∧ Rd w 1 yy 1 (([xt]).map (Value.int .i64))
  | 9 => yy = .pointer (some ⟨X, 2, none⟩)
  | 10 => yy = str xd
  | 11 => ∃ p, B0 ≤ p ∧ yy = .slice (some ⟨p, 0, none⟩) 1 1 ∧ Rd w 1 yy 1 (([xd]).map str)
  | _ => True
def mb19vb (i : Nat) (v : Value) : List Nat := vblocks v
theorem mb19Φ_keep (F0 : List Nat) (B0 : Nat) (X : Nat) (v4 : Value) (xi xt : Int) (xd L0 L1 L2 L3 : List UInt8) (hF : ∀ z ∈ F0, z < B0) (n0 : Nat) (yy : Value) (F : List Nat) (w w' : World) (h : mb19Φ B0 X v4 xi xt xd L0 L1 L2 L3 n0 yy w) (hx : Ext (F0 ++ F) w w') (hv : ∀ x ∈ mb19vb n0 yy, x ∉ F) : mb19Φ B0 X v4 xi xt xd L0 L1 L2 L3 n0 yy w' := by
  unfold mb19Φ at h ⊢
  split at h <;> first | exact h | (
    obtain ⟨p, hp, rfl, hr⟩ := h
    refine ⟨p, hp, rfl, hr.keep hx (fun z hz hm => ?_)⟩
    rcases List.mem_append.1 hm with h1 | h1
    · have := hF z h1
      simp [vblocks] at hz
      omega
    · exact hv z hz h1)
def mb19C (F0 : List Nat) (B0 : Nat) (X : Nat) (v4 : Value) (xi xt : Int) (xd L0 L1 L2 L3 : List UInt8) (s : Nat) (g : Nat → Value) (O : List Nat) (w : World) : Prop :=
  match s with
  | 0 => O = [] ∧ g 7 = v4 ∧ OwnB w v4 L0
  | 1 => O = [] ∧ g 82 = v4 ∧ OwnB w v4 L0
  | 2 => OwnB w (g 86) L1 ∧ ∀ z ∈ vblocks (g 86), z ∈ F0 ∨ (z ∈ O ∧ B0 ≤ z)
  | 3 => OwnB w (g 90) L2 ∧ ∀ z ∈ vblocks (g 90), z ∈ F0 ∨ (z ∈ O ∧ B0 ≤ z)
  | 4 => OwnB w (g 94) L3 ∧ ∀ z ∈ vblocks (g 94), z ∈ F0 ∨ (z ∈ O ∧ B0 ≤ z)
  | 5 => OwnB w (g 7) L3 ∧ ∀ z ∈ vblocks (g 7), z ∈ F0 ∨ (z ∈ O ∧ B0 ≤ z)
  | _ => True
theorem mb19C_keep (F0 : List Nat) (B0 : Nat) (X : Nat) (v4 : Value) (xi xt : Int) (xd L0 L1 L2 L3 : List UInt8) (s : Nat) (g : Nat → Value) (O : List Nat) (w w' : World) (h : mb19C F0 B0 X v4 xi xt xd L0 L1 L2 L3 s g O w) (hx : Ext [] w w') : mb19C F0 B0 X v4 xi xt xd L0 L1 L2 L3 s g O w' := by
  unfold mb19C at h ⊢
  split at h <;> first | exact h | exact ⟨h.1.keep hx (by simp), h.2⟩ | exact ⟨h.1, h.2.keep hx (by simp)⟩ | exact ⟨h.1, h.2.1, h.2.2.keep hx (by simp)⟩
def mb32Φ (B0 : Nat) (G : Nat) (v4 : Value) (pt : Int) (dt L0 L1 L2 : List UInt8) (n : Nat) (yy : Value) (w : World) : Prop :=
  match n with
  | 0 => yy = v4
  | 1 => yy = .pointer (some ⟨G, 15, none⟩)
  | 2 => yy = .int .i64 pt
  | 3 => ∃ p, B0 ≤ p ∧ yy = .slice (some ⟨p, 0, none⟩) 1 1 ∧ Rd w 1 yy 1 (([pt]).map (Value.int .i64))
  | 5 => yy = .pointer (some ⟨G, 16, none⟩)
  | 6 => yy = str dt
  | 7 => ∃ p, B0 ≤ p ∧ yy = .slice (some ⟨p, 0, none⟩) 1 1 ∧ Rd w 1 yy 1 (([dt]).map str)
  | _ => True
def mb32vb (i : Nat) (v : Value) : List Nat := vblocks v
theorem mb32Φ_keep (F0 : List Nat) (B0 : Nat) (G : Nat) (v4 : Value) (pt : Int) (dt L0 L1 L2 : List UInt8) (hF : ∀ z ∈ F0, z < B0) (n0 : Nat) (yy : Value) (F : List Nat) (w w' : World) (h : mb32Φ B0 G v4 pt dt L0 L1 L2 n0 yy w) (hx : Ext (F0 ++ F) w w') (hv : ∀ x ∈ mb32vb n0 yy, x ∉ F) : mb32Φ B0 G v4 pt dt L0 L1 L2 n0 yy w' := by
  unfold mb32Φ at h ⊢
  split at h <;> first | exact h | (
    obtain ⟨p, hp, rfl, hr⟩ := h
    refine ⟨p, hp, rfl, hr.keep hx (fun z hz hm => ?_)⟩
    rcases List.mem_append.1 hm with h1 | h1
    · have := hF z h1
      simp [vblocks] at hz
      omega
    · exact hv z hz h1)
def mb32C (F0 : List Nat) (B0 : Nat) (G : Nat) (v4 : Value) (pt : Int) (dt L0 L1 L2 : List UInt8) (s : Nat) (g : Nat → Value) (O : List Nat) (w : World) : Prop :=
  match s with
  | 0 => O = [] ∧ g 7 = v4 ∧ OwnB w v4 L0
  | 1 => O = [] ∧ g 141 = v4 ∧ OwnB w v4 L0
  | 2 => OwnB w (g 145) L1 ∧ ∀ z ∈ vblocks (g 145), z ∈ F0 ∨ (z ∈ O ∧ B0 ≤ z)
  | 3 => OwnB w (g 149) L2 ∧ ∀ z ∈ vblocks (g 149), z ∈ F0 ∨ (z ∈ O ∧ B0 ≤ z)
  | 4 => OwnB w (g 7) L2 ∧ ∀ z ∈ vblocks (g 7), z ∈ F0 ∨ (z ∈ O ∧ B0 ≤ z)
  | _ => True
theorem mb32C_keep (F0 : List Nat) (B0 : Nat) (G : Nat) (v4 : Value) (pt : Int) (dt L0 L1 L2 : List UInt8) (s : Nat) (g : Nat → Value) (O : List Nat) (w w' : World) (h : mb32C F0 B0 G v4 pt dt L0 L1 L2 s g O w) (hx : Ext [] w w') : mb32C F0 B0 G v4 pt dt L0 L1 L2 s g O w' := by
  unfold mb32C at h ⊢
  split at h <;> first | exact h | exact ⟨h.1.keep hx (by simp), h.2⟩ | exact ⟨h.1, h.2.keep hx (by simp)⟩ | exact ⟨h.1, h.2.1, h.2.2.keep hx (by simp)⟩
def nineM (m : Ms) : List Int := [m.kind, m.frm, m.too, m.term, m.index, m.logT, m.last, m.commit, (m.en : Int)]
def fiveM (m : Ms) : List Int := [m.state, m.li, m.lt, m.lb, (m.sn : Int)]
theorem cut_enc (m : Ms) (es : List En) (ss : List UInt32) (h : RightM m es ss) (z : Nat) (hz : z < (encM m es ss).length) (o : Ms) (os : List En) (ot : List UInt32) (ho : RightM o os ot) : (encM m es ss).take z ≠ encM o os ot := by
  intro he
  refine msgC.cut ((okV_mv m es ss).1 h).1 z hz ?_
  show doneR (msgR ((encM m es ss).take z, false)).2 = 0
  rw [he, msgR_enc ho]
  rfl
set_option maxRecDepth 100000 in
set_option maxHeartbeats 25600000 in
theorem mbytes_any {w : World} (m : Ms) (hok : MsOk w m) (cut : Int) (hcut : -9223372036854775808 ≤ cut ∧ cut ≤ 9223372036854775807) : Calls Try.prog 7 #[.agg m.cells.toArray, .int .i64 cut] w fun e w' => e = .returned (.bool true) ∧ Ext [] w w' := by
  obtain ⟨es, ss, hat0⟩ := hok
  obtain ⟨P, hP⟩ : ∃ G, G = w.heap.size := ⟨_, rfl⟩
  obtain ⟨W, hW⟩ : ∃ W, W = w.alloc (.cells m.cells.toArray 36) := ⟨_, rfl⟩
  have hB : Blk W P 36 m.cells := by rw [hW, hP]; exact Blk.new _ _ _
  have hxW : Ext [] w W := by rw [hW]; exact (Ext.refl _ _).alloc _
  have HAt := Hid.of (hat0.keep0 hxW)
  have ch := mhead_any W
  have HXW := Hid.of hxW
  have HB := Hid.of hB
  go_enter Try.func7, Try.ntmps7
  go_upto_region 1 with fail
  rw [← hW, ← hP]
  clear hW hP hB hxW hat0
  by_cases hf : FewM m es ss
  · have hfd : Hid (decide (FewM m es ss) = true) := Hid.of (decide_eq_true hf)
    have HFM := Hid.of hf
    clear hf
    have HCB := Hid.of (fun w' (h : MsAt w' m es ss) => bytes_any m es ss w' h (by have := HFM.out.2.1; omega))
    have HCR := Hid.of (fun w' (h : MsAt w' m es ss) => right_any m es ss w' h (by have := HFM.out.2.1; omega))
    have HCL := Hid.of (fun w' (h : MsAt w' m es ss) => lright_any m es ss w' h)
    by_cases hr : RightM m es ss
    · have hrd : Hid (decide (RightM m es ss) = true) := Hid.of (decide_eq_true hr)
      have HR := Hid.of hr
      clear hr
      obtain ⟨S, hS⟩ : ∃ S, S = encM m es ss := ⟨_, rfl⟩
      have HS := Hid.of hS
      clear hS
      go_upto_region 6 with (first
        | (go_at_call 19; (with_reducible refine ch.mono ?_); rintro e w1 ⟨rfl, hx1⟩; have HX1 := Hid.of (HXW.out.then0 hx1); have HR1 := Hid.of (HB.out.keep hx1 (by simp)).range; have HB1 := Hid.of (HB.out.keep hx1 (by simp)); have hat1 := (HAt.out.keep0 hx1); have cf := few_any m es ss w1 hat1; rw [hfd.out] at cf; have HA1 := Hid.of hat1; clear hx1 ch hat1)
        | (refine wpList_load_mid rfl 36 _ rfl P 0 rfl m.cells _ HR1.out Try.underlying36 rfl (by rw [mcells_len]; kernel_rfl) ?_)
        | (go_at_call 20; (with_reducible refine cf.mono ?_); rintro e w2 ⟨rfl, hx2⟩; have HX2 := Hid.of (HX1.out.then0 hx2); have HR2 := Hid.of (HB1.out.keep hx2 (by simp)).range; have HB2 := Hid.of (HB1.out.keep hx2 (by simp)); have HA2 := Hid.of (HA1.out.keep0 hx2); have cb := HCB.out _ HA2.out; rw [if_pos HR.out, ← HS.out] at cb; clear hx2 cf)
        | (refine wpList_load_mid rfl 36 _ rfl P 0 rfl m.cells _ HR2.out Try.underlying36 rfl (by rw [mcells_len]; kernel_rfl) ?_)
        | (go_at_call 21; (with_reducible refine cb.mono ?_); rintro e w3 ⟨rfl, hx3⟩; have HX3 := Hid.of (HX2.out.then0 hx3); have HR3 := Hid.of (HB2.out.keep hx3 (by simp)).range; have HB3 := Hid.of (HB2.out.keep hx3 (by simp)); have HA3 := Hid.of (HA2.out.keep0 hx3); clear hx3 cb))
      have HRW : Hid (∀ w', Ext [] w3 w' → w'.rangeAt P 0 m.cells) := Hid.of fun w' hx => (HB3.out.keep hx (by simp)).range
      have cR := fun w' (hx : Ext [] w3 w') => HCR.out w' (HA3.out.keep0 hx)
      have cL := fun w' (hx : Ext [] w3 w') => HCL.out w' (HA3.out.keep0 hx)
      rw [hrd.out] at cR cL
      refine wp_region_stepsg [30, 31, 32, 33, 34] (fun n y _ => match n with | 0 => y = .agg m.cells.toArray | 1 => y = .bool true | 2 => y = .agg m.cells.toArray | 3 => y = .bool true | 4 => y = .bool false | _ => True) (by kernel_rfl) (by kernel_rfl) (fun n y w1 w2 h hx => h) ?_ ?_
      · refine ⟨?f0, ?f1, ?f2, ?f3, ?f4, trivial⟩
        case f0 =>
          intro g w' hx hd
          refine op_run rfl ?_
          generalize hA : mkAct _ _ g = A
          have h2 : A.eval (.tmp 2) = .pointer (some ⟨P, 0, none⟩) := by rw [← hA]; exact mkAct_out _ _ _ _ rfl
          exact wp_load_mid 36 _ rfl P 0 h2 m.cells _ (HRW.out w' hx) Try.underlying36 rfl (by rw [mcells_len]; kernel_rfl) ⟨_, rfl, Ext.refl _ _, rfl⟩
        case f1 =>
          intro g w' hx hd
          refine op_run rfl ?_
          have e30 : g 30 = .agg m.cells.toArray := hd ⟨0, .data⟩ (by simp) rfl
          generalize hA : mkAct _ _ g = A
          have h30 : A.tmps[30]?.getD undef = .agg m.cells.toArray := by rw [← hA, mkAct_in2 _ _ _ _ rfl rfl]; exact e30
          refine float_k (fun K hK => ?_)
          go_simp
          refine (cR w' hx).mono ?_
          rintro e w2 ⟨rfl, hx2⟩
          exact hK (.bool true) w2 hx2 rfl
        case f2 =>
          intro g w' hx hd
          refine op_run rfl ?_
          generalize hA : mkAct _ _ g = A
          have h2 : A.eval (.tmp 2) = .pointer (some ⟨P, 0, none⟩) := by rw [← hA]; exact mkAct_out _ _ _ _ rfl
          exact wp_load_mid 36 _ rfl P 0 h2 m.cells _ (HRW.out w' hx) Try.underlying36 rfl (by rw [mcells_len]; kernel_rfl) ⟨_, rfl, Ext.refl _ _, rfl⟩
        case f3 =>
          intro g w' hx hd
          refine op_run rfl ?_
          have e32 : g 32 = .agg m.cells.toArray := hd ⟨2, .data⟩ (by simp) rfl
          generalize hA : mkAct _ _ g = A
          have h32 : A.tmps[32]?.getD undef = .agg m.cells.toArray := by rw [← hA, mkAct_in2 _ _ _ _ rfl rfl]; exact e32
          refine float_k (fun K hK => ?_)
          go_simp
          refine (cL w' hx).mono ?_
          rintro e w2 ⟨rfl, hx2⟩
          exact hK (.bool true) w2 hx2 rfl
        case f4 =>
          intro g w' hx hd
          refine op_run rfl ?_
          have e31 : g 31 = .bool true := hd ⟨1, .data⟩ (by simp) rfl
          have e33 : g 33 = .bool true := hd ⟨3, .data⟩ (by simp) rfl
          generalize hA : mkAct _ _ g = A
          have h31 : A.tmps[31]?.getD undef = .bool true := by rw [← hA, mkAct_in2 _ _ _ _ rfl rfl]; exact e31
          have h33 : A.tmps[33]?.getD undef = .bool true := by rw [← hA, mkAct_in2 _ _ _ _ rfl rfl]; exact e33
          refine step_val (v := .bool false) (w' := w') ?_ ⟨_, rfl, Ext.refl _ _, rfl⟩
          simp [execOp, h31, h33, Result.andThen, go_sem]
      · intro g w5 hx5 hd
        have e34 : g 34 = .bool false := hd 4 (by decide)
        clear hd
        have HX5 := Hid.of (HX3.out.then0 hx5)
        have HB5 := Hid.of (HB3.out.keep hx5 (by simp))
        have HR5 := Hid.of (HB3.out.keep hx5 (by simp)).range
        have HA5 := Hid.of (HA3.out.keep0 hx5)
        have c6 := HCL.out _ HA5.out
        rw [hrd.out] at c6
        clear hx5 cR cL
        unfold mkAct
        simp only [List.zipIdx_cons, List.zipIdx_nil, List.map_cons, List.map_nil, Nat.zero_add, Nat.reduceAdd, List.contains_cons, List.contains_nil, Nat.reduceBEq, Bool.or_false, Bool.or_true, ↓reduceIte, Bool.false_eq_true]
        rw [e34]
        go_upto_region 10 with (first
          | (refine wpList_load_mid rfl 36 _ rfl P 0 rfl m.cells _ HR5.out Try.underlying36 rfl (by rw [mcells_len]; kernel_rfl) ?_)
          | (go_at_call 23; (with_reducible refine c6.mono ?_); rintro e w6 ⟨rfl, hx6⟩; have HX6 := Hid.of (HX5.out.then0 hx6); have HB6 := Hid.of (HB5.out.keep hx6 (by simp)); have HA6 := Hid.of (HA5.out.keep0 hx6); clear hx6 c6))
        go_upto_region 11 with fail
        have ho0 : OwnB (w6.alloc (.cells #[] 5)) (.slice (some ⟨w6.heap.size, 0, none⟩) 0 0) [] := Own.lit w6 #[] 5 1 0 rfl (by unfold maxLen; omega)
        obtain ⟨V0, hV0⟩ : ∃ V, V = w6.alloc (.cells #[] 5) := ⟨_, rfl⟩
        obtain ⟨v0, hv0⟩ : ∃ v, v = Value.slice (some ⟨w6.heap.size, 0, none⟩) 0 0 := ⟨_, rfl⟩
        have hv0b : ∀ z ∈ vblocks v0, w6.heap.size ≤ z := by rw [hv0]; simp [vblocks]
        have hx0 : Ext [] w6 V0 := by rw [hV0]; exact (Ext.refl _ _).alloc _
        have hB0 := HB6.out.keep hx0 (by simp)
        rw [← hV0, ← hv0] at ho0
        rw [← hV0, ← hv0]
        clear hV0 hv0
        have hln := HA6.out.en_len
        have hls := HA6.out.sn_len
        have HLN := Hid.of hln
        have HLS := Hid.of hls
        have hen : m.en ≤ 4 := by rw [← hln]; exact HR.out.2.2.2.1
        have hsn : m.sn ≤ 64 := by rw [← hls]; exact HR.out.2.2.2.2.2.1
        have HR1 := Hid.of HR.out.2.2.1
        clear hln hls
        have b0 : V0.cell? ⟨P, 0, none⟩ = some (.int .i64 m.kind) := hB0.c 0
        have b1 : V0.cell? ⟨P, 1, none⟩ = some (.int .i64 m.frm) := hB0.c 1
        have b2 : V0.cell? ⟨P, 2, none⟩ = some (.int .i64 m.too) := hB0.c 2
        have b3 : V0.cell? ⟨P, 3, none⟩ = some (.int .i64 m.term) := hB0.c 3
        have b4 : V0.cell? ⟨P, 4, none⟩ = some (.int .i64 m.index) := hB0.c 4
        have b5 : V0.cell? ⟨P, 5, none⟩ = some (.int .i64 m.logT) := hB0.c 5
        have b6 : V0.cell? ⟨P, 6, none⟩ = some (.int .i64 m.last) := hB0.c 6
        have b7 : V0.cell? ⟨P, 7, none⟩ = some (.int .i64 m.commit) := hB0.c 7
        have b8 : V0.cell? ⟨P, 8, none⟩ = some (.slice m.ea m.en m.ec) := hB0.c 8
        obtain ⟨V1, hV1⟩ : ∃ V, V = V0.alloc (.cells #[.int .i64 m.kind, .int .i64 m.frm, .int .i64 m.too, .int .i64 m.term, .int .i64 m.index, .int .i64 m.logT, .int .i64 m.last, .int .i64 m.commit, .int .i64 (m.en : Int)] 3) := ⟨_, rfl⟩
        obtain ⟨Q, hQ⟩ : ∃ V, V = V0.heap.size := ⟨_, rfl⟩
        have hN1 : Blk V1 Q 3 ((nineM m).map (Value.int .i64)) := by rw [hV1, hQ]; exact Blk.new V0 3 #[.int .i64 m.kind, .int .i64 m.frm, .int .i64 m.too, .int .i64 m.term, .int .i64 m.index, .int .i64 m.logT, .int .i64 m.last, .int .i64 m.commit, .int .i64 (m.en : Int)]
        have hx1 : Ext [] w6 V1 := by rw [hV1]; exact hx0.alloc _
        have ho1 : OwnB V1 v0 [] := by rw [hV1]; exact ho0.keep ((Ext.refl [] V0).alloc _) (by simp)
        obtain ⟨B1, hB1⟩ : ∃ B : List UInt8, B = [] := ⟨_, rfl⟩
        have hB1l : B1.length = 0 := by rw [hB1]; rfl
        have HB1' := Hid.of hB1
        rw [← hB1] at ho1
        have HN1 := Hid.of hN1
        have HX1' := Hid.of hx1
        have HO1 := Hid.of ho1
        have HV1 : Hid (∀ z ∈ vblocks v0, w6.heap.size ≤ z ∧ z ≠ Q) := fun z hz => ⟨hv0b z hz, by have := ho0.lt z hz; omega⟩
        have HhV := Hid.of hV1
        have HhQ := Hid.of hQ
        clear hN1 hx1 ho1 hv0b ho0 hx0 hB0 hV1 hQ hB1
        go_wp2
        rw [← HhV.out, ← HhQ.out]
        clear HhV HhQ
        go_loopw [7, 66] (fun u7 u66 wr => ∃ (k : Nat), u66 = .int .i64 (k : Int) ∧ k ≤ 9 ∧ Hid (OwnB wr u7 (B1 ++ encNums ((nineM m).take k))) ∧ Hid (Ext [] w6 wr) ∧ Hid (∀ z ∈ vblocks u7, w6.heap.size ≤ z ∧ z ≠ Q) ∧ Hid (Blk wr Q 3 ((nineM m).map (Value.int .i64)))) (fun _ u66 _ => 9 - (intOf u66).toNat)
        case atStart => exact ⟨0, rfl, by omega, show OwnB _ _ _ by rw [List.take_zero]; simpa [encNums] using HO1.out, HX1'.out, HV1.out, HN1.out⟩
        case round =>
          obtain ⟨k, rfl, hk, hO, hX, hV, hN⟩ := hrel
          have hBn := hN.out
          by_cases hlt : k < 9
          · have hkl : k < (nineM m).length := hlt
            obtain ⟨x, hn⟩ : ∃ x, x = (nineM m)[k] := ⟨_, rfl⟩
            have c0 : wr.cell? ⟨Q, k, none⟩ = some (.int .i64 x) := by
              rw [hBn.c k]
              show ((nineM m).map (Value.int .i64))[k]? = _
              rw [List.getElem?_map, List.getElem?_eq_getElem hkl, hn]
              rfl
            have hnx : B1 ++ encNums ((nineM m).take (k + 1)) = (B1 ++ encNums ((nineM m).take k)) ++ encNums [x] := by
              rw [List.take_add_one, List.getElem?_eq_getElem hkl, ← hn]
              simp [encNums]
            have HNX := Hid.of hnx
            have hle : (B1 ++ encNums ((nineM m).take k)).length ≤ 4000 := by
              rw [List.length_append, encNums_length, List.length_take]
              have := hB1l
              have : (nineM m).length = 9 := rfl
              omega
            have hQl := hBn.lt
            have cn := num_any u7 (B1 ++ encNums ((nineM m).take k)) (some ⟨wr.heap.size, 0, none⟩) 1 1 [x] (wr.alloc (.cells #[.int .i64 x] 3)) (by omega) (by omega) (hO.out.keep ((Ext.refl [] wr).alloc _) (by simp)) (Rd.lit wr #[.int .i64 x] 3 1 1 rfl (by unfold maxLen; omega)) (fun z hz1 hz2 => by have := hO.out.lt z hz2; simp [vblocks] at hz1; omega)
            clear hn hnx hBn
            go_wp2_with ((go_at_call 24; (with_reducible refine cn.mono ?_); rintro e w7 ⟨v7, rfl, ho7, hx7, hv7⟩; have HO7 := Hid.of ho7; have HX7 := Hid.of ((hX.out.alloc _).trans hx7 (fun z hz => .inr (hV.out z hz).1)); have HN7 := Hid.of ((hN.out.alloc (.cells #[.int .i64 x] 3)).keep hx7 (fun hz => (hV.out _ hz).2 rfl)); have HV7 : Hid (∀ z ∈ vblocks v7, w6.heap.size ≤ z ∧ z ≠ Q) := (fun z hz => by { rcases hv7 z hz with h | h; · { exact hV.out z h }; · { have := hX.out.size; simp at h; omega } }); clear ho7 hx7 hv7 cn))
            refine ⟨⟨k + 1, by congr 1, by omega, show OwnB _ _ _ by rw [HNX.out]; exact HO7.out, HX7.out, HV7.out, HN7.out⟩, by simp [intOf]; omega⟩
          · obtain rfl : k = 9 := by omega
            have hO' := hO.out
            rw [show B1 ++ encNums ((nineM m).take 9) = byB m es 0 from by rw [HB1'.out]; unfold byB byA nineM; rw [HLN.out]; simp] at hO'
            have HO2 := Hid.of hO'
            have HX2' := hX
            have HV2 : Hid (∀ z ∈ vblocks u7, w6.heap.size ≤ z) := fun z hz => (hV.out z hz).1
            have b8 : wr.cell? ⟨P, 8, none⟩ = some (.slice m.ea m.en m.ec) := (HB6.out.keep hX.out (by simp)).c 8
            clear hO hO' hN hBn hX hV
            go_wp2
            clear b8
            go_loopw [7, 78] (fun u7 u78 wr => ∃ (k : Nat), u78 = .int .i64 (k : Int) ∧ k ≤ m.en ∧ Hid (OwnB wr u7 (byB m es k)) ∧ Hid (Ext [] w6 wr) ∧ Hid (∀ z ∈ vblocks u7, w6.heap.size ≤ z)) (fun _ u78 _ => m.en - (intOf u78).toNat)
            case atStart => exact ⟨0, rfl, by omega, HO2.out, HX2'.out, HV2.out⟩
            case round =>
              obtain ⟨k, rfl, hk, hO, hX, hV⟩ := hrel
              by_cases hlt : k < m.en
              · have hkm : k < es.length := by rw [HLN.out]; exact hlt
                obtain ⟨q, off, hea, hc⟩ := HA6.out.ents.ent k hkm
                obtain ⟨x, hx⟩ : ∃ x, x = es[k] := ⟨_, rfl⟩
                rw [← hx] at hc
                obtain ⟨d0, d1, d2⟩ := hc wr hX.out
                have hxl : x.data.length ≤ 488 := by rw [hx]; exact (HR1.out _ (List.getElem_mem hkm)).2.2
                have HXE := Hid.of hx
                rw [hea]
                clear hx hc hea
                obtain ⟨xi, xt, xd⟩ := x
                simp only at d0 d1 d2 hxl
                have hL0 := byB_len m es k (fun e he => (HR1.out e he).2.2) (by rw [HLN.out]; exact hen)
                have hsu : byB m es (k + 1) = ((byB m es k ++ encNums [xi]) ++ encNums [xt]) ++ encTexts [xd] := by
                  unfold byB
                  rw [List.take_add_one, List.getElem?_eq_getElem hkm, ← HXE.out, encTexts_one]
                  simp [En.enc, encNums]
                obtain ⟨L0, hl0⟩ : ∃ L, L = byB m es k := ⟨_, rfl⟩
                obtain ⟨L1, hl1⟩ : ∃ L, L = L0 ++ encNums [xi] := ⟨_, rfl⟩
                obtain ⟨L2, hl2⟩ : ∃ L, L = L1 ++ encNums [xt] := ⟨_, rfl⟩
                obtain ⟨L3, hl3⟩ : ∃ L, L = L2 ++ encTexts [xd] := ⟨_, rfl⟩
                have hl1n : L1.length ≤ 4000 := by rw [hl1, hl0, List.length_append, encNums_length]; simp; omega
                have hl2n : L2.length ≤ 5000 := by rw [hl2, List.length_append, encNums_length]; simp; omega
                rw [← hl0] at hL0 hsu
                rw [← hl1, ← hl2, ← hl3] at hsu
                have HL1 := Hid.of hl1
                have HL2 := Hid.of hl2
                have HL3 := Hid.of hl3
                have HSU := Hid.of hsu
                have hO' := hO.out
                rw [← hl0] at hO'
                obtain ⟨W7, hW7⟩ : ∃ x, x = wr.alloc (.cells #[.int .i64 xi, .int .i64 xt, str xd] 60) := ⟨_, rfl⟩
                have hX7 : Ext [] wr W7 := by rw [hW7]; exact (Ext.refl _ _).alloc _
                obtain ⟨F0, hFe⟩ : ∃ F, F = vblocks u7 := ⟨_, rfl⟩
                have hV0 : ∀ z ∈ vblocks u7, z ∈ F0 := fun z hz => by rw [hFe]; exact hz
                have hlto := hO'.lt
                have hF0' : ∀ z ∈ F0, z < wr.heap.size := fun z hz => hlto z (by rw [← hFe]; exact hz)
                have hs7 := hX7.size
                have hF0 : ∀ z ∈ F0, z < W7.heap.size := fun z hz => by have := hF0' z hz; omega
                have HV0 : Hid (OwnB W7 u7 L0) := hO'.keep hX7 (by simp)
                have hBx : Blk W7 wr.heap.size 60 [.int .i64 xi, .int .i64 xt, str xd] := by rw [hW7]; exact Blk.new _ _ #[.int .i64 xi, .int .i64 xt, str xd]
                have hXl := hBx.lt
                have hXF : wr.heap.size ∉ F0 := fun hm => by have := hF0' _ hm; omega
                obtain ⟨X, hXe⟩ : ∃ X, X = wr.heap.size := ⟨_, rfl⟩
                rw [← hXe] at hBx hXl hXF
                have cX0 : ∀ w', Ext F0 W7 w' → w'.cell? ⟨X, 0, none⟩ = some (.int .i64 xi) := fun w' hx => (hBx.keep hx hXF).c 0
                have cX1 : ∀ w', Ext F0 W7 w' → w'.cell? ⟨X, 1, none⟩ = some (.int .i64 xt) := fun w' hx => (hBx.keep hx hXF).c 1
                have cX2 : ∀ w', Ext F0 W7 w' → w'.cell? ⟨X, 2, none⟩ = some (str xd) := fun w' hx => (hBx.keep hx hXF).c 2
                have HX7 := Hid.of hX7
                have HVF : Hid (∀ z ∈ F0, w6.heap.size ≤ z) := fun z hz => hV.out z (by rw [← hFe]; exact hz)
                have HW7 := Hid.of hW7
                have HXe := Hid.of hXe
                clear hl0 hl1 hl2 hl3 hsu hO' hW7 hX7 hFe hlto hF0' hs7 hBx hXF hXe
                go_wp2_with fail
                rw [← HW7.out, ← HXe.out]
                refine wp_region_plan3 mb19vb F0 [82, 83, 84, 85, 86, 87, 88, 89, 90, 91, 92, 93, 94, 7] [0, 4, 8, 12, 13] (mb19Φ W7.heap.size X u7 xi xt xd L0 L1 L2 L3) (mb19C F0 W7.heap.size X u7 xi xt xd L0 L1 L2 L3) (by kernel_rfl) (by kernel_rfl) (by kernel_rfl)
                  (fun n0 v' F' w1 w2 h hx hv => mb19Φ_keep F0 W7.heap.size X u7 xi xt xd L0 L1 L2 L3 hF0 n0 v' F' w1 w2 h hx hv) (fun s g O w1 w2 h hx => mb19C_keep F0 W7.heap.size X u7 xi xt xd L0 L1 L2 L3 s g O w1 w2 h hx) ?_ (fun w' hx => ⟨rfl, rfl, HV0.out.keep hx (by simp)⟩) ?_ ?_
                · intro s g g' O w1 h hg
                  have e82 : g 82 = g' 82 := hg 0 rfl
                  have e86 : g 86 = g' 86 := hg 4 rfl
                  have e90 : g 90 = g' 90 := hg 8 rfl
                  have e94 : g 94 = g' 94 := hg 12 rfl
                  have e7 : g 7 = g' 7 := hg 13 rfl
                  unfold mb19C at h ⊢
                  rw [← e82, ← e86, ← e90, ← e94, ← e7]
                  exact h
                · refine ⟨⟨fun h => (by cases h), fun _ => ?f0⟩, ⟨fun _ => ?f1, fun h => by cases h⟩, ⟨fun _ => ?f2, fun h => by cases h⟩, ⟨fun _ => ?f3, fun h => by cases h⟩, ⟨fun h => (by cases h), fun _ => ?f4⟩, ⟨fun _ => ?f5, fun h => by cases h⟩, ⟨fun _ => ?f6, fun h => by cases h⟩, ⟨fun _ => ?f7, fun h => by cases h⟩, ⟨fun h => (by cases h), fun _ => ?f8⟩, ⟨fun _ => ?f9, fun h => by cases h⟩, ⟨fun _ => ?f10, fun h => by cases h⟩, ⟨fun _ => ?f11, fun h => by cases h⟩, ⟨fun h => (by cases h), fun _ => ?f12⟩, ⟨fun h => (by cases h), fun _ => ?f13⟩, trivial⟩
                  case f1 =>
                    intro g w' hx hd
                    generalize hA : mkAct _ _ g = A
                    have h11 : A.tmps[11]?.getD undef = .pointer (some ⟨X, 0, none⟩) := by rw [← hA]; exact mkAct_out2 _ _ _ _ _ rfl rfl
                    refine step_val (v := .pointer (some ⟨X, 0, none⟩)) (w' := w') ?_ ⟨_, rfl, Ext.refl _ _, rfl, by have := hx.size; simp [mb19vb, vblocks]; omega⟩
                    simp [execOp, h11, Result.andThen, go_sem]
                  case f2 =>
                    intro g w' hx hd
                    have e83 : g 83 = .pointer (some ⟨X, 0, none⟩) := hd ⟨1, .data⟩ (by simp) rfl rfl
                    generalize hA : mkAct _ _ g = A
                    have h83 : A.tmps[83]?.getD undef = .pointer (some ⟨X, 0, none⟩) := by rw [← hA, mkAct_in2 _ _ _ _ rfl rfl]; exact e83
                    have c := cX0 w' hx
                    refine step_val (v := .int .i64 xi) (w' := w') ?_ ⟨_, rfl, Ext.refl _ _, rfl, by simp [mb19vb, vblocks]⟩
                    simp [execOp, h83, c, Result.andThen, go_sem]
                  case f3 =>
                    intro g w' hx hd
                    have e84 : g 84 = .int .i64 xi := hd ⟨2, .data⟩ (by simp) rfl rfl
                    generalize hA : mkAct _ _ g = A
                    have h84 : A.tmps[84]?.getD undef = .int .i64 xi := by rw [← hA, mkAct_in2 _ _ _ _ rfl rfl]; exact e84
                    refine step_val (v := .slice (some ⟨w'.heap.size, 0, none⟩) 1 1) (w' := w'.alloc (.cells #[.int .i64 xi] 3)) ?_ ⟨_, rfl, (Ext.refl _ _).alloc _, ⟨w'.heap.size, hx.size, rfl, Rd.litg #[.int .i64 xi] 3 1 1 rfl (by unfold maxLen; omega) rfl⟩, by simp [mb19vb, vblocks]⟩
                    simp [execOp, h84, Result.andThen, go_sem]
                  case f5 =>
                    intro g w' hx hd
                    generalize hA : mkAct _ _ g = A
                    have h11 : A.tmps[11]?.getD undef = .pointer (some ⟨X, 0, none⟩) := by rw [← hA]; exact mkAct_out2 _ _ _ _ _ rfl rfl
                    refine step_val (v := .pointer (some ⟨X, 1, none⟩)) (w' := w') ?_ ⟨_, rfl, Ext.refl _ _, rfl, by have := hx.size; simp [mb19vb, vblocks]; omega⟩
                    simp [execOp, h11, Result.andThen, go_sem]
                  case f6 =>
                    intro g w' hx hd
                    have e87 : g 87 = .pointer (some ⟨X, 1, none⟩) := hd ⟨5, .data⟩ (by simp) rfl rfl
                    generalize hA : mkAct _ _ g = A
                    have h87 : A.tmps[87]?.getD undef = .pointer (some ⟨X, 1, none⟩) := by rw [← hA, mkAct_in2 _ _ _ _ rfl rfl]; exact e87
                    have c := cX1 w' hx
                    refine step_val (v := .int .i64 xt) (w' := w') ?_ ⟨_, rfl, Ext.refl _ _, rfl, by simp [mb19vb, vblocks]⟩
                    simp [execOp, h87, c, Result.andThen, go_sem]
                  case f7 =>
                    intro g w' hx hd
                    have e88 : g 88 = .int .i64 xt := hd ⟨6, .data⟩ (by simp) rfl rfl
                    generalize hA : mkAct _ _ g = A
                    have h88 : A.tmps[88]?.getD undef = .int .i64 xt := by rw [← hA, mkAct_in2 _ _ _ _ rfl rfl]; exact e88
                    refine step_val (v := .slice (some ⟨w'.heap.size, 0, none⟩) 1 1) (w' := w'.alloc (.cells #[.int .i64 xt] 3)) ?_ ⟨_, rfl, (Ext.refl _ _).alloc _, ⟨w'.heap.size, hx.size, rfl, Rd.litg #[.int .i64 xt] 3 1 1 rfl (by unfold maxLen; omega) rfl⟩, by simp [mb19vb, vblocks]⟩
                    simp [execOp, h88, Result.andThen, go_sem]
                  case f9 =>
                    intro g w' hx hd
                    generalize hA : mkAct _ _ g = A
                    have h11 : A.tmps[11]?.getD undef = .pointer (some ⟨X, 0, none⟩) := by rw [← hA]; exact mkAct_out2 _ _ _ _ _ rfl rfl
                    refine step_val (v := .pointer (some ⟨X, 2, none⟩)) (w' := w') ?_ ⟨_, rfl, Ext.refl _ _, rfl, by have := hx.size; simp [mb19vb, vblocks]; omega⟩
                    simp [execOp, h11, Result.andThen, go_sem]
                  case f10 =>
                    intro g w' hx hd
                    have e91 : g 91 = .pointer (some ⟨X, 2, none⟩) := hd ⟨9, .data⟩ (by simp) rfl rfl
                    generalize hA : mkAct _ _ g = A
                    have h91 : A.tmps[91]?.getD undef = .pointer (some ⟨X, 2, none⟩) := by rw [← hA, mkAct_in2 _ _ _ _ rfl rfl]; exact e91
                    have c := cX2 w' hx
                    refine step_val (v := str xd) (w' := w') ?_ ⟨_, rfl, Ext.refl _ _, rfl, by simp [mb19vb, vblocks]⟩
                    simp [execOp, h91, c, Result.andThen, go_sem]
                  case f11 =>
                    intro g w' hx hd
                    have e92 : g 92 = str xd := hd ⟨10, .data⟩ (by simp) rfl rfl
                    generalize hA : mkAct _ _ g = A
                    have h92 : A.tmps[92]?.getD undef = str xd := by rw [← hA, mkAct_in2 _ _ _ _ rfl rfl]; exact e92
                    refine step_val (v := .slice (some ⟨w'.heap.size, 0, none⟩) 1 1) (w' := w'.alloc (.cells #[str xd] 9)) ?_ ⟨_, rfl, (Ext.refl _ _).alloc _, ⟨w'.heap.size, hx.size, rfl, Rd.litg #[str xd] 9 1 1 rfl (by unfold maxLen; omega) rfl⟩, by simp [mb19vb, vblocks]⟩
                    simp [execOp, h92, Result.andThen, go_sem]
                  case f0 =>
                    intro s g O w' hs hx hd hsp hC hO
                    rcases s with _ | _ | _ | _ | _ | s <;> simp at hs
                    obtain ⟨rfl, ev, ho⟩ := hC
                    generalize hA : mkAct _ _ g = A
                    have h2 : A.tmps[7]?.getD undef = u7 := by rw [← hA, mkAct_in2 _ _ _ _ rfl rfl]; exact ev
                    refine chain_k3 (Cn := fun v O' w'' => mb19C F0 W7.heap.size X u7 xi xt xd L0 L1 L2 L3 1 (updG g 82 v) O' w'') (fun K hK => ?_)
                    clear hsp
                    go_simp
                    exact hK u7 [] w' (Ext.refl _ _) ⟨rfl, rfl, ho⟩ (by simp)
                  case f4 =>
                    intro s g O w' hs hx hd hsp hC hO
                    rcases s with _ | _ | _ | _ | _ | s <;> simp at hs
                    obtain ⟨rfl, ev, ho⟩ := hC
                    obtain ⟨p, hp, e6, hr⟩ := hd ⟨3, .data⟩ (by simp) rfl rfl
                    have e6' : g 85 = .slice (some ⟨p, 0, none⟩) 1 1 := e6
                    rw [show g (slotOf _ 3) = g 85 from rfl, e6'] at hr
                    generalize hA : mkAct _ _ g = A
                    have h1 : A.tmps[85]?.getD undef = .slice (some ⟨p, 0, none⟩) 1 1 := by rw [← hA, mkAct_in2 _ _ _ _ rfl rfl]; exact e6'
                    have h2 : A.tmps[82]?.getD undef = u7 := by rw [← hA, mkAct_in2 _ _ _ _ rfl rfl]; exact ev
                    refine chain_k3 (Cn := fun v O' w'' => mb19C F0 W7.heap.size X u7 xi xt xd L0 L1 L2 L3 2 (updG g 86 v) O' w'') (fun K hK => ?_)
                    go_simp
                    have hsz := hx.size
                    refine (num_any u7 L0 _ 1 1 [xi] w' (by omega) (by omega) ho hr (fun x hx1 hx2 => ?_)).mono ?_
                    · have := hF0 _ (hV0 x hx2)
                      simp [vblocks] at hx1
                      omega
                    rintro e w2 ⟨v', rfl, ho2, hx2, hv⟩
                    rw [← HL1.out] at ho2
                    refine hK v' ((vblocks v').filter fun z => decide (z ∉ F0)) w2 (hx2.mono (fun z hz => .inl ?_)) ⟨ho2, fun z hz => ?_⟩ (fun z hz => ?_)
                    · exact List.mem_append_left _ (hV0 z hz)
                    · by_cases hzF : z ∈ F0
                      · exact .inl hzF
                      · refine .inr ⟨List.mem_filter.2 ⟨hz, by simpa using hzF⟩, ?_⟩
                        rcases hv z hz with h | h
                        · exact absurd (hV0 z h) hzF
                        · omega
                    · obtain ⟨hz1, hz2⟩ := List.mem_filter.1 hz
                      refine ⟨?_, ho2.lt z hz1⟩
                      rcases hv z hz1 with h | h
                      · exact absurd (hV0 z h) (by simpa using hz2)
                      · exact .inr h
                  case f8 =>
                    intro s g O w' hs hx hd hsp hC hO
                    rcases s with _ | _ | _ | _ | _ | s <;> simp at hs
                    obtain ⟨ho, hvO⟩ := hC
                    obtain ⟨p, hp, e6, hr⟩ := hd ⟨7, .data⟩ (by simp) rfl rfl
                    have e6' : g 89 = .slice (some ⟨p, 0, none⟩) 1 1 := e6
                    have hqO : ∀ x ∈ vblocks (.slice (some ⟨p, 0, none⟩) 1 1), x ∉ O := by
                      have := hsp ⟨7, .data⟩ (by simp) rfl rfl
                      rw [show g (slotOf _ 7) = g 89 from rfl, e6'] at this
                      exact this
                    rw [show g (slotOf _ 7) = g 89 from rfl, e6'] at hr
                    generalize hA : mkAct _ _ g = A
                    have h1 : A.tmps[89]?.getD undef = .slice (some ⟨p, 0, none⟩) 1 1 := by rw [← hA, mkAct_in2 _ _ _ _ rfl rfl]; exact e6'
                    have h2 : A.tmps[86]?.getD undef = g 86 := by rw [← hA, mkAct_in2 _ _ _ _ rfl rfl]
                    refine chain_k3 (Cn := fun v O' w'' => mb19C F0 W7.heap.size X u7 xi xt xd L0 L1 L2 L3 3 (updG g 90 v) O' w'') (fun K hK => ?_)
                    obtain ⟨v0', hv0'⟩ : ∃ v, v = g 86 := ⟨_, rfl⟩
                    rw [← hv0'] at h2 ho hvO
                    clear hv0' e6 e6' hsp
                    go_simp
                    have hsz := hx.size
                    refine (num_any v0' L1 _ 1 1 [xt] w' (by omega) (by omega) ho hr (fun x hx1 hx2 => ?_)).mono ?_
                    · rcases hvO x hx2 with h | h
                      · have := hF0 _ h
                        simp [vblocks] at hx1
                        omega
                      · exact hqO x hx1 h.1
                    rintro e w2 ⟨v', rfl, ho2, hx2, hv⟩
                    rw [← HL2.out] at ho2
                    refine hK v' ((vblocks v').filter fun z => decide (z ∉ F0)) w2 (hx2.mono (fun z hz => .inl ?_)) ⟨ho2, fun z hz => ?_⟩ (fun z hz => ?_)
                    · rcases hvO z hz with h | h
                      · exact List.mem_append_left _ h
                      · exact List.mem_append_right _ h.1
                    · by_cases hzF : z ∈ F0
                      · exact .inl hzF
                      · refine .inr ⟨List.mem_filter.2 ⟨hz, by simpa using hzF⟩, ?_⟩
                        rcases hv z hz with h | h
                        · exact ((hvO z h).resolve_left hzF).2
                        · omega
                    · obtain ⟨hz1, hz2⟩ := List.mem_filter.1 hz
                      refine ⟨?_, ho2.lt z hz1⟩
                      rcases hv z hz1 with h | h
                      · exact .inl ((hvO z h).resolve_left (by simpa using hz2)).1
                      · exact .inr h
                  case f12 =>
                    intro s g O w' hs hx hd hsp hC hO
                    rcases s with _ | _ | _ | _ | _ | s <;> simp at hs
                    obtain ⟨ho, hvO⟩ := hC
                    obtain ⟨p, hp, e6, hr⟩ := hd ⟨11, .data⟩ (by simp) rfl rfl
                    have e6' : g 93 = .slice (some ⟨p, 0, none⟩) 1 1 := e6
                    have hqO : ∀ x ∈ vblocks (.slice (some ⟨p, 0, none⟩) 1 1), x ∉ O := by
                      have := hsp ⟨11, .data⟩ (by simp) rfl rfl
                      rw [show g (slotOf _ 11) = g 93 from rfl, e6'] at this
                      exact this
                    rw [show g (slotOf _ 11) = g 93 from rfl, e6'] at hr
                    generalize hA : mkAct _ _ g = A
                    have h1 : A.tmps[93]?.getD undef = .slice (some ⟨p, 0, none⟩) 1 1 := by rw [← hA, mkAct_in2 _ _ _ _ rfl rfl]; exact e6'
                    have h2 : A.tmps[90]?.getD undef = g 90 := by rw [← hA, mkAct_in2 _ _ _ _ rfl rfl]
                    refine chain_k3 (Cn := fun v O' w'' => mb19C F0 W7.heap.size X u7 xi xt xd L0 L1 L2 L3 4 (updG g 94 v) O' w'') (fun K hK => ?_)
                    obtain ⟨v0', hv0'⟩ : ∃ v, v = g 90 := ⟨_, rfl⟩
                    rw [← hv0'] at h2 ho hvO
                    clear hv0' e6 e6' hsp
                    go_simp
                    have hsz := hx.size
                    refine (text_any v0' L2 _ 1 1 [xd] w' (by omega) (by omega) ho hr (fun x hx1 hx2 => ?_)).mono ?_
                    · rcases hvO x hx2 with h | h
                      · have := hF0 _ h
                        simp [vblocks] at hx1
                        omega
                      · exact hqO x hx1 h.1
                    rintro e w2 ⟨v', rfl, ho2, hx2, hv⟩
                    rw [← HL3.out] at ho2
                    refine hK v' ((vblocks v').filter fun z => decide (z ∉ F0)) w2 (hx2.mono (fun z hz => .inl ?_)) ⟨ho2, fun z hz => ?_⟩ (fun z hz => ?_)
                    · rcases hvO z hz with h | h
                      · exact List.mem_append_left _ h
                      · exact List.mem_append_right _ h.1
                    · by_cases hzF : z ∈ F0
                      · exact .inl hzF
                      · refine .inr ⟨List.mem_filter.2 ⟨hz, by simpa using hzF⟩, ?_⟩
                        rcases hv z hz with h | h
                        · exact ((hvO z h).resolve_left hzF).2
                        · omega
                    · obtain ⟨hz1, hz2⟩ := List.mem_filter.1 hz
                      refine ⟨?_, ho2.lt z hz1⟩
                      rcases hv z hz1 with h | h
                      · exact .inl ((hvO z h).resolve_left (by simpa using hz2)).1
                      · exact .inr h
                  case f13 =>
                    intro s g O w' hs hx hd hsp hC hO
                    rcases s with _ | _ | _ | _ | _ | s <;> simp at hs
                    obtain ⟨ho, hvO⟩ := hC
                    generalize hA : mkAct _ _ g = A
                    have h2 : A.tmps[94]?.getD undef = g 94 := by rw [← hA, mkAct_in2 _ _ _ _ rfl rfl]
                    refine chain_k3 (Cn := fun v O' w'' => mb19C F0 W7.heap.size X u7 xi xt xd L0 L1 L2 L3 5 (updG g 7 v) O' w'') (fun K hK => ?_)
                    obtain ⟨v0', hv0'⟩ : ∃ v, v = g 94 := ⟨_, rfl⟩
                    rw [← hv0'] at h2 ho hvO
                    clear hv0' hsp
                    go_simp
                    exact hK v0' O w' (Ext.refl _ _) ⟨ho, hvO⟩ (fun z hz => ⟨.inl hz, (hO z hz).2⟩)
                · intro g O w5 hx5 hC hd
                  obtain ⟨ho5, hv5⟩ := hC
                  have HO5 := Hid.of ho5
                  have HV5 := Hid.of hv5
                  have HX5' := Hid.of hx5
                  clear ho5 hv5 hx5 hd cX0 cX1 cX2 hXl hF0 hV0 d0 d1 d2
                  unfold mkAct
                  simp only [List.zipIdx_cons, List.zipIdx_nil, List.map_cons, List.map_nil, Nat.zero_add, Nat.reduceAdd, List.contains_cons, List.contains_nil, Nat.reduceBEq, Bool.or_false, Bool.or_true, ↓reduceIte, Bool.false_eq_true]
                  go_wp2
                  refine ⟨⟨k + 1, by congr 1, by omega, show OwnB _ _ _ by rw [HSU.out]; exact HO5.out, (hX.out.then0 HX7.out).trans HX5'.out (fun z hz => .inr (HVF.out z hz)), fun z hz => ?_⟩, by simp [intOf]; omega⟩
                  rcases HV5.out z hz with h | h
                  · exact HVF.out z h
                  · have h1 := hX.out.size; have h2 := HX7.out.size; have h3 := h.2; omega
              · obtain rfl : k = m.en := by omega
                have hle : (byB m es m.en).length ≤ 3000 := byB_len m es m.en (fun e he => (HR1.out e he).2.2) (by rw [HLN.out]; exact hen)
                have b9 : wr.cell? ⟨P, 9, none⟩ = some (.bool m.ok) := (HB6.out.keep hX.out (by simp)).c 9
                have cf := flag_any u7 (byB m es m.en) (some ⟨wr.heap.size, 0, none⟩) 1 1 [m.ok] (wr.alloc (.cells #[.bool m.ok] 4)) (by omega) (by omega) (hO.out.keep ((Ext.refl [] wr).alloc _) (by simp)) (Rd.lit wr #[.bool m.ok] 4 1 1 rfl (by unfold maxLen; omega)) (fun z hz1 hz2 => by have := hO.out.lt z hz2; simp [vblocks] at hz1; omega)
                go_upto_region 22 with (go_at_call 26; (with_reducible refine cf.mono ?_); rintro e w8 ⟨v8, rfl, ho8, hx8, hv8⟩; have HO8 := Hid.of ho8; have HX8 := Hid.of ((hX.out.alloc _).trans hx8 (fun z hz => .inr (hV.out z hz))); have HV8 : Hid (∀ z ∈ vblocks v8, w6.heap.size ≤ z) := (fun z hz => by { rcases hv8 z hz with h | h; · { exact hV.out z h }; · { have := hX.out.size; simp at h; omega } }); clear ho8 hx8 hv8 cf)
                obtain ⟨B3, hB3⟩ : ∃ B : List UInt8, B = byB m es m.en ++ encFlags [m.ok] := ⟨_, rfl⟩
                have hB3l : B3.length ≤ 3010 := by rw [hB3, List.length_append]; have : (encFlags [m.ok]).length = 1 := rfl; omega
                have HB3' := Hid.of hB3
                have ho8 := HO8.out
                rw [← hB3] at ho8
                have hB8 := HB6.out.keep HX8.out (by simp)
                have b10 : w8.cell? ⟨P, 10, none⟩ = some (.int .i64 m.state) := hB8.c 10
                have b11 : w8.cell? ⟨P, 11, none⟩ = some (.int .i64 m.li) := hB8.c 11
                have b12 : w8.cell? ⟨P, 12, none⟩ = some (.int .i64 m.lt) := hB8.c 12
                have b13 : w8.cell? ⟨P, 13, none⟩ = some (.int .i64 m.lb) := hB8.c 13
                have b14 : w8.cell? ⟨P, 14, none⟩ = some (.slice m.sa m.sn m.sc) := hB8.c 14
                obtain ⟨V3, hV3⟩ : ∃ V, V = w8.alloc (.cells #[.int .i64 m.state, .int .i64 m.li, .int .i64 m.lt, .int .i64 m.lb, .int .i64 (m.sn : Int)] 3) := ⟨_, rfl⟩
                obtain ⟨Q, hQ⟩ : ∃ V, V = w8.heap.size := ⟨_, rfl⟩
                have hN3 : Blk V3 Q 3 ((fiveM m).map (Value.int .i64)) := by rw [hV3, hQ]; exact Blk.new w8 3 #[.int .i64 m.state, .int .i64 m.li, .int .i64 m.lt, .int .i64 m.lb, .int .i64 (m.sn : Int)]
                have hx3 : Ext [] w6 V3 := by rw [hV3]; exact HX8.out.alloc _
                have ho3 : OwnB V3 v8 B3 := by rw [hV3]; exact ho8.keep ((Ext.refl [] w8).alloc _) (by simp)
                have HN3 := Hid.of hN3
                have HX3' := Hid.of hx3
                have HO3 := Hid.of ho3
                have HV3 : Hid (∀ z ∈ vblocks v8, w6.heap.size ≤ z ∧ z ≠ Q) := fun z hz => ⟨HV8.out z hz, by have := ho8.lt z hz; omega⟩
                have HhV := Hid.of hV3
                have HhQ := Hid.of hQ
                clear hN3 hx3 ho3 ho8 hB8 hV3 hQ hB3 b9 hle hO hX hV
                go_wp2
                rw [← HhV.out, ← HhQ.out]
                clear HhV HhQ b10 b11 b12 b13 b14
                go_loopw [7, 118] (fun u7 u118 wr => ∃ (k : Nat), u118 = .int .i64 (k : Int) ∧ k ≤ 5 ∧ Hid (OwnB wr u7 (B3 ++ encNums ((fiveM m).take k))) ∧ Hid (Ext [] w6 wr) ∧ Hid (∀ z ∈ vblocks u7, w6.heap.size ≤ z ∧ z ≠ Q) ∧ Hid (Blk wr Q 3 ((fiveM m).map (Value.int .i64)))) (fun _ u118 _ => 5 - (intOf u118).toNat)
                case atStart => exact ⟨0, rfl, by omega, show OwnB _ _ _ by rw [List.take_zero]; simpa [encNums] using HO3.out, HX3'.out, HV3.out, HN3.out⟩
                case round =>
                  obtain ⟨k, rfl, hk, hO, hX, hV, hN⟩ := hrel
                  have hBn := hN.out
                  by_cases hlt : k < 5
                  · have hkl : k < (fiveM m).length := hlt
                    obtain ⟨x, hn⟩ : ∃ x, x = (fiveM m)[k] := ⟨_, rfl⟩
                    have c0 : wr.cell? ⟨Q, k, none⟩ = some (.int .i64 x) := by
                      rw [hBn.c k]
                      show ((fiveM m).map (Value.int .i64))[k]? = _
                      rw [List.getElem?_map, List.getElem?_eq_getElem hkl, hn]
                      rfl
                    have hnx : B3 ++ encNums ((fiveM m).take (k + 1)) = (B3 ++ encNums ((fiveM m).take k)) ++ encNums [x] := by
                      rw [List.take_add_one, List.getElem?_eq_getElem hkl, ← hn]
                      simp [encNums]
                    have HNX := Hid.of hnx
                    have hle : (B3 ++ encNums ((fiveM m).take k)).length ≤ 4000 := by
                      rw [List.length_append, encNums_length, List.length_take]
                      have := hB3l
                      have : (fiveM m).length = 5 := rfl
                      omega
                    have hQl := hBn.lt
                    have cn := num_any u7 (B3 ++ encNums ((fiveM m).take k)) (some ⟨wr.heap.size, 0, none⟩) 1 1 [x] (wr.alloc (.cells #[.int .i64 x] 3)) (by omega) (by omega) (hO.out.keep ((Ext.refl [] wr).alloc _) (by simp)) (Rd.lit wr #[.int .i64 x] 3 1 1 rfl (by unfold maxLen; omega)) (fun z hz1 hz2 => by have := hO.out.lt z hz2; simp [vblocks] at hz1; omega)
                    clear hn hnx hBn
                    go_wp2_with ((go_at_call 24; (with_reducible refine cn.mono ?_); rintro e w7 ⟨v7, rfl, ho7, hx7, hv7⟩; have HO7 := Hid.of ho7; have HX7 := Hid.of ((hX.out.alloc _).trans hx7 (fun z hz => .inr (hV.out z hz).1)); have HN7 := Hid.of ((hN.out.alloc (.cells #[.int .i64 x] 3)).keep hx7 (fun hz => (hV.out _ hz).2 rfl)); have HV7 : Hid (∀ z ∈ vblocks v7, w6.heap.size ≤ z ∧ z ≠ Q) := (fun z hz => by { rcases hv7 z hz with h | h; · { exact hV.out z h }; · { have := hX.out.size; simp at h; omega } }); clear ho7 hx7 hv7 cn))
                    refine ⟨⟨k + 1, by congr 1, by omega, show OwnB _ _ _ by rw [HNX.out]; exact HO7.out, HX7.out, HV7.out, HN7.out⟩, by simp [intOf]; omega⟩
                  · obtain rfl : k = 5 := by omega
                    have hO' := hO.out
                    rw [show B3 ++ encNums ((fiveM m).take 5) = byC m es ss 0 from by rw [HB3'.out]; unfold byC fiveM; rw [← HLN.out, ← HLS.out]; simp [encFlags]] at hO'
                    have HO4 := Hid.of hO'
                    have HX4' := hX
                    have HV4 : Hid (∀ z ∈ vblocks u7, w6.heap.size ≤ z) := fun z hz => (hV.out z hz).1
                    have b14 : wr.cell? ⟨P, 14, none⟩ = some (.slice m.sa m.sn m.sc) := (HB6.out.keep hX.out (by simp)).c 14
                    clear hO hO' hN hBn hX hV
                    go_wp2
                    clear b14
                    go_loopw [7, 131] (fun u7 u131 wr => ∃ (j : Nat), u131 = .int .i64 (j : Int) ∧ j ≤ m.sn ∧ Hid (OwnB wr u7 (byC m es ss j)) ∧ Hid (Ext [] w6 wr) ∧ Hid (∀ z ∈ vblocks u7, w6.heap.size ≤ z)) (fun _ u131 _ => m.sn - (intOf u131).toNat)
                    case atStart => exact ⟨0, rfl, by omega, HO4.out, HX4'.out, HV4.out⟩
                    case round =>
                      obtain ⟨j, rfl, hj, hO6, hX6, hV6⟩ := hrel
                      have hle : (byC m es ss j).length ≤ 4000 := byC_len m es ss j (fun e he => (HR1.out e he).2.2) (by rw [HLN.out]; exact hen) (by rw [HLS.out]; exact hsn)
                      by_cases hlt2 : j < m.sn
                      · have hjm : j < ss.length := by rw [HLS.out]; exact hlt2
                        obtain ⟨q, off, hsa, hc⟩ := HA6.out.sums.u32 j hjm
                        obtain ⟨x, hx⟩ : ∃ x, x = ss[j] := ⟨_, rfl⟩
                        rw [← hx] at hc
                        have d0 := hc wr hX6.out
                        have hwr : IntKind.i64.wrap (x.toNat : Int) = (x.toNat : Int) := IntWalk.i64_in _ ⟨by omega, by have := x.toNat_lt; omega⟩
                        have hnx : byC m es ss (j + 1) = byC m es ss j ++ encNums [(x.toNat : Int)] := by
                          unfold byC
                          rw [List.take_add_one, List.getElem?_eq_getElem hjm, ← hx]
                          simp [encU, encNums]
                        have HNX := Hid.of hnx
                        have cn := num_any u7 (byC m es ss j) (some ⟨wr.heap.size, 0, none⟩) 1 1 [(x.toNat : Int)] (wr.alloc (.cells #[.int .i64 (x.toNat : Int)] 3)) (by omega) (by omega) (hO6.out.keep ((Ext.refl [] wr).alloc _) (by simp)) (Rd.lit wr #[.int .i64 (x.toNat : Int)] 3 1 1 rfl (by unfold maxLen; omega)) (fun z hz1 hz2 => by have := hO6.out.lt z hz2; simp [vblocks] at hz1; omega)
                        rw [hsa]
                        have HSA := Hid.of hsa
                        clear hx hc hsa hnx
                        go_wp2_with ((go_at_call 24; (with_reducible refine cn.mono ?_); rintro e w7 ⟨v7, rfl, ho7, hx7, hv7⟩; have HO7 := Hid.of ho7; have HX7 := Hid.of ((hX6.out.alloc _).trans hx7 (fun z hz => .inr (hV6.out z hz))); have HV7 : Hid (∀ z ∈ vblocks v7, w6.heap.size ≤ z) := (fun z hz => by { rcases hv7 z hz with h | h; · { exact hV6.out z h }; · { have := hX6.out.size; simp at h; omega } }); clear ho7 hx7 hv7 cn))
                        rw [← HSA.out]
                        refine ⟨⟨v7, _, .int .i64 ((j : Int) + 1), _, _, _, _, _, _, _, _, _, ⟨j + 1, by congr 1, by omega, show OwnB _ _ _ by rw [HNX.out]; exact HO7.out, HX7.out, HV7.out⟩, rfl⟩, by simp [intOf]; omega⟩
                      · obtain rfl : j = m.sn := by omega
                        have hBr := HB6.out.keep hX6.out (by simp)
                        have hGr := hBr.lt
                        have hPl := HB6.out.lt
                        have hO' := hO6.out
                        obtain ⟨F0, hFe⟩ : ∃ F, F = vblocks u7 := ⟨_, rfl⟩
                        have hV0 : ∀ z ∈ vblocks u7, z ∈ F0 := fun z hz => by rw [hFe]; exact hz
                        have hlto := hO'.lt
                        have hF0 : ∀ z ∈ F0, z < wr.heap.size := fun z hz => hlto z (by rw [← hFe]; exact hz)
                        have HVF : Hid (∀ z ∈ F0, w6.heap.size ≤ z) := fun z hz => hV6.out z (by rw [← hFe]; exact hz)
                        have hGF : P ∉ F0 := fun hm => by have := HVF.out _ hm; omega
                        obtain ⟨L0, hl0⟩ : ∃ L, L = byC m es ss m.sn := ⟨_, rfl⟩
                        obtain ⟨L1, hl1⟩ : ∃ L, L = L0 ++ encNums [m.part] := ⟨_, rfl⟩
                        obtain ⟨L2, hl2⟩ : ∃ L, L = L1 ++ encTexts [m.data] := ⟨_, rfl⟩
                        have hl1n : L1.length ≤ 5000 := by rw [hl1, hl0, List.length_append, encNums_length]; simp; omega
                        have hsu : encM m es ss = L2 := by rw [hl2, hl1, hl0, ← HLS.out, by_all]
                        rw [← hl0] at hle hO'
                        have HL1 := Hid.of hl1
                        have HL2 := Hid.of hl2
                        have HSU2 := Hid.of hsu
                        have HV0 := Hid.of hO'
                        have cG15 : ∀ w', Ext F0 wr w' → w'.cell? ⟨P, 15, none⟩ = some (.int .i64 m.part) := fun w' hx => (hBr.keep hx hGF).c 15
                        have cG16 : ∀ w', Ext F0 wr w' → w'.cell? ⟨P, 16, none⟩ = some (str m.data) := fun w' hx => (hBr.keep hx hGF).c 16
                        clear hl0 hl1 hl2 hsu hO' hFe hlto hBr hO6
                        go_wp2_with fail
                        refine wp_region_plan3 mb32vb F0 [141, 142, 143, 144, 145, 146, 147, 148, 149, 7] [0, 4, 8, 9] (mb32Φ wr.heap.size P u7 m.part m.data L0 L1 L2) (mb32C F0 wr.heap.size P u7 m.part m.data L0 L1 L2) (by kernel_rfl) (by kernel_rfl) (by kernel_rfl)
                          (fun n0 v' F' w1 w2 h hx hv => mb32Φ_keep F0 wr.heap.size P u7 m.part m.data L0 L1 L2 hF0 n0 v' F' w1 w2 h hx hv) (fun s g O w1 w2 h hx => mb32C_keep F0 wr.heap.size P u7 m.part m.data L0 L1 L2 s g O w1 w2 h hx) ?_ (fun w' hx => ⟨rfl, rfl, HV0.out.keep hx (by simp)⟩) ?_ ?_
                        · intro s g g' O w1 h hg
                          have e141 : g 141 = g' 141 := hg 0 rfl
                          have e145 : g 145 = g' 145 := hg 4 rfl
                          have e149 : g 149 = g' 149 := hg 8 rfl
                          have e7 : g 7 = g' 7 := hg 9 rfl
                          unfold mb32C at h ⊢
                          rw [← e141, ← e145, ← e149, ← e7]
                          exact h
                        · refine ⟨⟨fun h => (by cases h), fun _ => ?f0⟩, ⟨fun _ => ?f1, fun h => by cases h⟩, ⟨fun _ => ?f2, fun h => by cases h⟩, ⟨fun _ => ?f3, fun h => by cases h⟩, ⟨fun h => (by cases h), fun _ => ?f4⟩, ⟨fun _ => ?f5, fun h => by cases h⟩, ⟨fun _ => ?f6, fun h => by cases h⟩, ⟨fun _ => ?f7, fun h => by cases h⟩, ⟨fun h => (by cases h), fun _ => ?f8⟩, ⟨fun h => (by cases h), fun _ => ?f9⟩, trivial⟩
                          case f1 =>
                            intro g w' hx hd
                            generalize hA : mkAct _ _ g = A
                            have h2 : A.tmps[2]?.getD undef = .pointer (some ⟨P, 0, none⟩) := by rw [← hA]; exact mkAct_out2 _ _ _ _ _ rfl rfl
                            refine step_val (v := .pointer (some ⟨P, 15, none⟩)) (w' := w') ?_ ⟨_, rfl, Ext.refl _ _, rfl, by have := hx.size; simp [mb32vb, vblocks]; omega⟩
                            simp [execOp, h2, Result.andThen, go_sem]
                          case f2 =>
                            intro g w' hx hd
                            have e142 : g 142 = .pointer (some ⟨P, 15, none⟩) := hd ⟨1, .data⟩ (by simp) rfl rfl
                            generalize hA : mkAct _ _ g = A
                            have h142 : A.tmps[142]?.getD undef = .pointer (some ⟨P, 15, none⟩) := by rw [← hA, mkAct_in2 _ _ _ _ rfl rfl]; exact e142
                            have c := cG15 w' hx
                            refine step_val (v := .int .i64 m.part) (w' := w') ?_ ⟨_, rfl, Ext.refl _ _, rfl, by simp [mb32vb, vblocks]⟩
                            simp [execOp, h142, c, Result.andThen, go_sem]
                          case f3 =>
                            intro g w' hx hd
                            have e143 : g 143 = .int .i64 m.part := hd ⟨2, .data⟩ (by simp) rfl rfl
                            generalize hA : mkAct _ _ g = A
                            have h143 : A.tmps[143]?.getD undef = .int .i64 m.part := by rw [← hA, mkAct_in2 _ _ _ _ rfl rfl]; exact e143
                            refine step_val (v := .slice (some ⟨w'.heap.size, 0, none⟩) 1 1) (w' := w'.alloc (.cells #[.int .i64 m.part] 3)) ?_ ⟨_, rfl, (Ext.refl _ _).alloc _, ⟨w'.heap.size, hx.size, rfl, Rd.litg #[.int .i64 m.part] 3 1 1 rfl (by unfold maxLen; omega) rfl⟩, by simp [mb32vb, vblocks]⟩
                            simp [execOp, h143, Result.andThen, go_sem]
                          case f5 =>
                            intro g w' hx hd
                            generalize hA : mkAct _ _ g = A
                            have h2 : A.tmps[2]?.getD undef = .pointer (some ⟨P, 0, none⟩) := by rw [← hA]; exact mkAct_out2 _ _ _ _ _ rfl rfl
                            refine step_val (v := .pointer (some ⟨P, 16, none⟩)) (w' := w') ?_ ⟨_, rfl, Ext.refl _ _, rfl, by have := hx.size; simp [mb32vb, vblocks]; omega⟩
                            simp [execOp, h2, Result.andThen, go_sem]
                          case f6 =>
                            intro g w' hx hd
                            have e146 : g 146 = .pointer (some ⟨P, 16, none⟩) := hd ⟨5, .data⟩ (by simp) rfl rfl
                            generalize hA : mkAct _ _ g = A
                            have h146 : A.tmps[146]?.getD undef = .pointer (some ⟨P, 16, none⟩) := by rw [← hA, mkAct_in2 _ _ _ _ rfl rfl]; exact e146
                            have c := cG16 w' hx
                            refine step_val (v := str m.data) (w' := w') ?_ ⟨_, rfl, Ext.refl _ _, rfl, by simp [mb32vb, vblocks]⟩
                            simp [execOp, h146, c, Result.andThen, go_sem]
                          case f7 =>
                            intro g w' hx hd
                            have e147 : g 147 = str m.data := hd ⟨6, .data⟩ (by simp) rfl rfl
                            generalize hA : mkAct _ _ g = A
                            have h147 : A.tmps[147]?.getD undef = str m.data := by rw [← hA, mkAct_in2 _ _ _ _ rfl rfl]; exact e147
                            refine step_val (v := .slice (some ⟨w'.heap.size, 0, none⟩) 1 1) (w' := w'.alloc (.cells #[str m.data] 9)) ?_ ⟨_, rfl, (Ext.refl _ _).alloc _, ⟨w'.heap.size, hx.size, rfl, Rd.litg #[str m.data] 9 1 1 rfl (by unfold maxLen; omega) rfl⟩, by simp [mb32vb, vblocks]⟩
                            simp [execOp, h147, Result.andThen, go_sem]
                          case f0 =>
                            intro s g O w' hs hx hd hsp hC hO
                            rcases s with _ | _ | _ | _ | s <;> simp at hs
                            obtain ⟨rfl, ev, ho⟩ := hC
                            generalize hA : mkAct _ _ g = A
                            have h2 : A.tmps[7]?.getD undef = u7 := by rw [← hA, mkAct_in2 _ _ _ _ rfl rfl]; exact ev
                            refine chain_k3 (Cn := fun v O' w'' => mb32C F0 wr.heap.size P u7 m.part m.data L0 L1 L2 1 (updG g 141 v) O' w'') (fun K hK => ?_)
                            clear hsp
                            go_simp
                            exact hK u7 [] w' (Ext.refl _ _) ⟨rfl, rfl, ho⟩ (by simp)
                          case f4 =>
                            intro s g O w' hs hx hd hsp hC hO
                            rcases s with _ | _ | _ | _ | s <;> simp at hs
                            obtain ⟨rfl, ev, ho⟩ := hC
                            obtain ⟨p, hp, e6, hr⟩ := hd ⟨3, .data⟩ (by simp) rfl rfl
                            have e6' : g 144 = .slice (some ⟨p, 0, none⟩) 1 1 := e6
                            rw [show g (slotOf _ 3) = g 144 from rfl, e6'] at hr
                            generalize hA : mkAct _ _ g = A
                            have h1 : A.tmps[144]?.getD undef = .slice (some ⟨p, 0, none⟩) 1 1 := by rw [← hA, mkAct_in2 _ _ _ _ rfl rfl]; exact e6'
                            have h2 : A.tmps[141]?.getD undef = u7 := by rw [← hA, mkAct_in2 _ _ _ _ rfl rfl]; exact ev
                            refine chain_k3 (Cn := fun v O' w'' => mb32C F0 wr.heap.size P u7 m.part m.data L0 L1 L2 2 (updG g 145 v) O' w'') (fun K hK => ?_)
                            go_simp
                            have hsz := hx.size
                            refine (num_any u7 L0 _ 1 1 [m.part] w' (by omega) (by omega) ho hr (fun x hx1 hx2 => ?_)).mono ?_
                            · have := hF0 _ (hV0 x hx2)
                              simp [vblocks] at hx1
                              omega
                            rintro e w2 ⟨v', rfl, ho2, hx2, hv⟩
                            rw [← HL1.out] at ho2
                            refine hK v' ((vblocks v').filter fun z => decide (z ∉ F0)) w2 (hx2.mono (fun z hz => .inl ?_)) ⟨ho2, fun z hz => ?_⟩ (fun z hz => ?_)
                            · exact List.mem_append_left _ (hV0 z hz)
                            · by_cases hzF : z ∈ F0
                              · exact .inl hzF
                              · refine .inr ⟨List.mem_filter.2 ⟨hz, by simpa using hzF⟩, ?_⟩
                                rcases hv z hz with h | h
                                · exact absurd (hV0 z h) hzF
                                · omega
                            · obtain ⟨hz1, hz2⟩ := List.mem_filter.1 hz
                              refine ⟨?_, ho2.lt z hz1⟩
                              rcases hv z hz1 with h | h
                              · exact absurd (hV0 z h) (by simpa using hz2)
                              · exact .inr h
                          case f8 =>
                            intro s g O w' hs hx hd hsp hC hO
                            rcases s with _ | _ | _ | _ | s <;> simp at hs
                            obtain ⟨ho, hvO⟩ := hC
                            obtain ⟨p, hp, e6, hr⟩ := hd ⟨7, .data⟩ (by simp) rfl rfl
                            have e6' : g 148 = .slice (some ⟨p, 0, none⟩) 1 1 := e6
                            have hqO : ∀ x ∈ vblocks (.slice (some ⟨p, 0, none⟩) 1 1), x ∉ O := by
                              have := hsp ⟨7, .data⟩ (by simp) rfl rfl
                              rw [show g (slotOf _ 7) = g 148 from rfl, e6'] at this
                              exact this
                            rw [show g (slotOf _ 7) = g 148 from rfl, e6'] at hr
                            generalize hA : mkAct _ _ g = A
                            have h1 : A.tmps[148]?.getD undef = .slice (some ⟨p, 0, none⟩) 1 1 := by rw [← hA, mkAct_in2 _ _ _ _ rfl rfl]; exact e6'
                            have h2 : A.tmps[145]?.getD undef = g 145 := by rw [← hA, mkAct_in2 _ _ _ _ rfl rfl]
                            refine chain_k3 (Cn := fun v O' w'' => mb32C F0 wr.heap.size P u7 m.part m.data L0 L1 L2 3 (updG g 149 v) O' w'') (fun K hK => ?_)
                            obtain ⟨v0', hv0'⟩ : ∃ v, v = g 145 := ⟨_, rfl⟩
                            rw [← hv0'] at h2 ho hvO
                            clear hv0' e6 e6' hsp
                            go_simp
                            have hsz := hx.size
                            refine (text_any v0' L1 _ 1 1 [m.data] w' (by omega) (by omega) ho hr (fun x hx1 hx2 => ?_)).mono ?_
                            · rcases hvO x hx2 with h | h
                              · have := hF0 _ h
                                simp [vblocks] at hx1
                                omega
                              · exact hqO x hx1 h.1
                            rintro e w2 ⟨v', rfl, ho2, hx2, hv⟩
                            rw [← HL2.out] at ho2
                            refine hK v' ((vblocks v').filter fun z => decide (z ∉ F0)) w2 (hx2.mono (fun z hz => .inl ?_)) ⟨ho2, fun z hz => ?_⟩ (fun z hz => ?_)
                            · rcases hvO z hz with h | h
                              · exact List.mem_append_left _ h
                              · exact List.mem_append_right _ h.1
                            · by_cases hzF : z ∈ F0
                              · exact .inl hzF
                              · refine .inr ⟨List.mem_filter.2 ⟨hz, by simpa using hzF⟩, ?_⟩
                                rcases hv z hz with h | h
                                · exact ((hvO z h).resolve_left hzF).2
                                · omega
                            · obtain ⟨hz1, hz2⟩ := List.mem_filter.1 hz
                              refine ⟨?_, ho2.lt z hz1⟩
                              rcases hv z hz1 with h | h
                              · exact .inl ((hvO z h).resolve_left (by simpa using hz2)).1
                              · exact .inr h
                          case f9 =>
                            intro s g O w' hs hx hd hsp hC hO
                            rcases s with _ | _ | _ | _ | s <;> simp at hs
                            obtain ⟨ho, hvO⟩ := hC
                            generalize hA : mkAct _ _ g = A
                            have h2 : A.tmps[149]?.getD undef = g 149 := by rw [← hA, mkAct_in2 _ _ _ _ rfl rfl]
                            refine chain_k3 (Cn := fun v O' w'' => mb32C F0 wr.heap.size P u7 m.part m.data L0 L1 L2 4 (updG g 7 v) O' w'') (fun K hK => ?_)
                            obtain ⟨v0', hv0'⟩ : ∃ v, v = g 149 := ⟨_, rfl⟩
                            rw [← hv0'] at h2 ho hvO
                            clear hv0' hsp
                            go_simp
                            exact hK v0' O w' (Ext.refl _ _) ⟨ho, hvO⟩ (fun z hz => ⟨.inl hz, (hO z hz).2⟩)
                        · intro g O w5 hx5 hC hd
                          obtain ⟨ho5, hv5⟩ := hC
                          obtain ⟨v9, hv9⟩ : ∃ v, v = g 7 := ⟨_, rfl⟩
                          have HXF : Hid (Ext [] w6 w5) := hX6.out.trans hx5 (fun z hz => .inr (HVF.out z hz))
                          have ho9 : OwnB w5 v9 S := by rw [hv9, HS.out, HSU2.out]; exact ho5
                          have HO9 := Hid.of ho9
                          clear hx5 hd cG15 cG16 hF0 hV0 ho5 hv5 ho9
                          unfold mkAct
                          simp only [List.zipIdx_cons, List.zipIdx_nil, List.map_cons, List.map_nil, Nat.zero_add, Nat.reduceAdd, List.contains_cons, List.contains_nil, Nat.reduceBEq, Bool.or_false, Bool.or_true, ↓reduceIte, Bool.false_eq_true]
                          rw [← hv9]
                          clear hv9
                          have HB9 := Hid.of (HB6.out.keep HXF.out (by simp))
                          have HA9 := Hid.of (HA6.out.keep0 HXF.out)
                          have HX9 := Hid.of (HX6.out.then0 HXF.out)
                          have cr := mread_enc m es ss HR.out
                          rw [← HS.out] at cr
                          have hlen : S.length ≤ 5000 := by rw [HS.out]; exact encV_length ((okV_mv m es ss).1 HR.out).1
                          have hpos : 0 < S.length := by rw [HS.out]; exact encM_pos m es ss
                          obtain ⟨c, hcc⟩ : ∃ c : Nat, cut % 65536 = (c : Int) := ⟨(cut % 65536).toNat, by omega⟩
                          have hz1 : c % S.length < S.length := Nat.mod_lt c hpos
                          obtain ⟨z, hz⟩ : ∃ z, c % S.length = z := ⟨_, rfl⟩
                          rw [hz] at hz1
                          have hcz : (c : Int) % (S.length : Int) = (z : Int) := by rw [← hz, Int.natCast_emod]
                          have hcn : 0 ≤ (c : Int) := by omega
                          have hte := take_extract S z (by omega)
                          obtain ⟨T, hT⟩ : ∃ T, T = S.take z := ⟨_, rfl⟩
                          have hTl : T.length ≤ 1000000 := by rw [hT, List.length_take]; omega
                          have hTn : ∀ o os ot, RightM o os ot → T ≠ encM o os ot := fun o os ot ho => by
                            rw [hT, HS.out]
                            exact cut_enc m es ss HR.out z (by rw [← HS.out]; exact hz1) o os ot ho
                          rw [← hT] at hte
                          have cr2 : ∀ w, Calls Try.prog 27 #[str T] w fun e w' => e = .returned (.tuple #[.agg Ms.zero.cells.toArray, .int .i64 2]) ∧ Ext [] w w' := fun w => (mread_all T w hTl).mono (by
                            rintro e w' ⟨hx, ⟨o, os, ot, hr, hse, _⟩ | ⟨_, he⟩⟩
                            · exact absurd hse (hTn o os ot hr)
                            · exact ⟨he, hx⟩)
                          clear hz hT hTn
                          go_wp2_with (first
                            | (go_at_call 27; (with_reducible refine (cr _).mono ?_); rintro e w10 ⟨hx10, x, rfl, hxa, hxm, hxr⟩; have HX10 := Hid.of (HX9.out.then0 hx10); have HXA := Hid.of hxa; have HXM := Hid.of hxm; have HXR := Hid.of hxr; have HB10 := Hid.of (HB9.out.keep hx10 (by simp)); have HA10 := Hid.of (HA9.out.keep0 hx10); have HO10 := Hid.of (HO9.out.keep hx10 (by simp)); clear hx10 hxa hxm hxr cr)
                            | (refine wpList_new_row rfl rfl 36 _ _ _ rfl rfl rfl rfl _ al_msg x.cells rfl (by kernel_rfl) (mcells_one _) rfl rfl ?_; have hb11 := Hid.of (Blk.new w10 36 x.cells.toArray); have x11 : Ext [] w10 (w10.alloc (.cells x.cells.toArray 36)) := (Ext.refl [] w10).alloc _; have HX11 := Hid.of (HX10.out.then0 x11); have HXA11 := Hid.of (HXA.out.keep0 x11); have HA11 := Hid.of (HA10.out.keep0 x11); have HB11 := Hid.of (HB10.out.keep x11 (by simp)); have HO11 := Hid.of (HO10.out.keep x11 (by simp)); clear x11)
                            | (go_at_call 27; (with_reducible refine (cr2 _).mono ?_); rintro e w12 ⟨rfl, hx12⟩; have HX12 := Hid.of (HX11.out.then0 hx12); have HXA12 := Hid.of (HXA11.out.keep0 hx12); have HA12 := Hid.of (HA11.out.keep0 hx12); have HB12 := Hid.of (HB11.out.keep hx12 (by simp)); have HQ12 := Hid.of (hb11.out.keep hx12 (by simp)); have HO12 := Hid.of (HO11.out.keep hx12 (by simp)); clear hx12 cr2)
                            | (refine wpList_new_row rfl rfl 36 _ _ _ rfl rfl rfl rfl _ al_msg Ms.zero.cells rfl (by kernel_rfl) (mcells_one _) rfl rfl ?_; have HZ13 := Hid.of (Blk.new w12 36 Ms.zero.cells.toArray); have x13 : Ext [] w12 (w12.alloc (.cells Ms.zero.cells.toArray 36)) := (Ext.refl [] w12).alloc _; have HX13 := Hid.of (HX12.out.then0 x13); have HXA13 := Hid.of (HXA12.out.keep0 x13); have HA13 := Hid.of (HA12.out.keep0 x13); have HB13 := Hid.of (HB12.out.keep x13 (by simp)); have HQ13 := Hid.of (HQ12.out.keep x13 (by simp)); have HRB := Hid.of HB13.out.range; have HRQ := Hid.of HQ13.out.range; have hcv := (HO12.out.keep x13 (by simp)).str; have cs := same_m x m es es ss ss _ HXA13.out HA13.out HXR.out HR.out; rw [sameB_true HXM.out] at cs; clear x13)
                            | (refine wpList_load_row_g (by first | rfl | (simp [Region.wanted, yielded]; done)) 36 _ rfl w10.heap.size 0 rfl x.cells _ HRQ.out Try.underlying36 rfl (by rw [mcells_len]; kernel_rfl) ?_)
                            | (refine wpList_load_row_g (by first | rfl | (simp [Region.wanted, yielded]; done)) 36 _ rfl P 0 rfl m.cells _ HRB.out Try.underlying36 rfl (by rw [mcells_len]; kernel_rfl) ?_)
                            | (go_at_call 28; (with_reducible refine cs.mono ?_); rintro e w14 ⟨rfl, hx14⟩; have HX14 := Hid.of (HX13.out.then0 hx14); have HXA14 := Hid.of (HXA13.out.keep0 hx14); have HA14 := Hid.of (HA13.out.keep0 hx14); have HRB14 := Hid.of (HB13.out.keep hx14 (by simp)).range; have HRQ14 := Hid.of (HQ13.out.keep hx14 (by simp)).range; have HZ14 := Hid.of (HZ13.out.keep hx14 (by simp)); have cs2 := same_m m x es es ss ss _ HA14.out HXA14.out HR.out HXR.out; rw [sameB_true HXM.out.symm] at cs2; clear hx14 cs hcv)
                            | (refine wpList_load_row_g (by first | rfl | (simp [Region.wanted, yielded]; done)) 36 _ rfl P 0 rfl m.cells _ HRB14.out Try.underlying36 rfl (by rw [mcells_len]; kernel_rfl) ?_)
                            | (refine wpList_load_row_g (by first | rfl | (simp [Region.wanted, yielded]; done)) 36 _ rfl w10.heap.size 0 rfl x.cells _ HRQ14.out Try.underlying36 rfl (by rw [mcells_len]; kernel_rfl) ?_)
                            | (go_at_call 28; (with_reducible refine cs2.mono ?_); rintro e w15 ⟨rfl, hx15⟩; have HX15 := Hid.of (HX14.out.then0 hx15); have c0 : w15.cell? ⟨w12.heap.size, 0, none⟩ = some (.int .i64 0) := (HZ14.out.keep hx15 (by simp)).c 0; clear hx15 cs2))
                          go_ret
                          exact ⟨rfl, HX15.out⟩
    · have hrd : Hid (decide (RightM m es ss) = false) := Hid.of (decide_eq_false hr)
      have HR := Hid.of hr
      clear hr
      go_upto_region 6 with (first
        | (go_at_call 19; (with_reducible refine ch.mono ?_); rintro e w1 ⟨rfl, hx1⟩; have HX1 := Hid.of (HXW.out.then0 hx1); have HR1 := Hid.of (HB.out.keep hx1 (by simp)).range; have HB1 := Hid.of (HB.out.keep hx1 (by simp)); have hat1 := (HAt.out.keep0 hx1); have cf := few_any m es ss w1 hat1; rw [hfd.out] at cf; have HA1 := Hid.of hat1; clear hx1 ch hat1)
        | (refine wpList_load_mid rfl 36 _ rfl P 0 rfl m.cells _ HR1.out Try.underlying36 rfl (by rw [mcells_len]; kernel_rfl) ?_)
        | (go_at_call 20; (with_reducible refine cf.mono ?_); rintro e w2 ⟨rfl, hx2⟩; have HX2 := Hid.of (HX1.out.then0 hx2); have HR2 := Hid.of (HB1.out.keep hx2 (by simp)).range; have HB2 := Hid.of (HB1.out.keep hx2 (by simp)); have HA2 := Hid.of (HA1.out.keep0 hx2); have cb := HCB.out _ HA2.out; rw [if_neg HR.out] at cb; clear hx2 cf)
        | (refine wpList_load_mid rfl 36 _ rfl P 0 rfl m.cells _ HR2.out Try.underlying36 rfl (by rw [mcells_len]; kernel_rfl) ?_)
        | (go_at_call 21; (with_reducible refine cb.mono ?_); rintro e w3 ⟨rfl, hx3⟩; have HX3 := Hid.of (HX2.out.then0 hx3); have HR3 := Hid.of (HB2.out.keep hx3 (by simp)).range; have HB3 := Hid.of (HB2.out.keep hx3 (by simp)); have HA3 := Hid.of (HA2.out.keep0 hx3); clear hx3 cb))
      have HRW : Hid (∀ w', Ext [] w3 w' → w'.rangeAt P 0 m.cells) := Hid.of fun w' hx => (HB3.out.keep hx (by simp)).range
      have cR := fun w' (hx : Ext [] w3 w') => HCR.out w' (HA3.out.keep0 hx)
      have cL := fun w' (hx : Ext [] w3 w') => HCL.out w' (HA3.out.keep0 hx)
      rw [hrd.out] at cR cL
      refine wp_region_stepsg [30, 31, 32, 33, 34] (fun n y _ => match n with | 0 => y = .agg m.cells.toArray | 1 => y = .bool false | 2 => y = .agg m.cells.toArray | 3 => y = .bool false | 4 => y = .bool false | _ => True) (by kernel_rfl) (by kernel_rfl) (fun n y w1 w2 h hx => h) ?_ ?_
      · refine ⟨?f0, ?f1, ?f2, ?f3, ?f4, trivial⟩
        case f0 =>
          intro g w' hx hd
          refine op_run rfl ?_
          generalize hA : mkAct _ _ g = A
          have h2 : A.eval (.tmp 2) = .pointer (some ⟨P, 0, none⟩) := by rw [← hA]; exact mkAct_out _ _ _ _ rfl
          exact wp_load_mid 36 _ rfl P 0 h2 m.cells _ (HRW.out w' hx) Try.underlying36 rfl (by rw [mcells_len]; kernel_rfl) ⟨_, rfl, Ext.refl _ _, rfl⟩
        case f1 =>
          intro g w' hx hd
          refine op_run rfl ?_
          have e30 : g 30 = .agg m.cells.toArray := hd ⟨0, .data⟩ (by simp) rfl
          generalize hA : mkAct _ _ g = A
          have h30 : A.tmps[30]?.getD undef = .agg m.cells.toArray := by rw [← hA, mkAct_in2 _ _ _ _ rfl rfl]; exact e30
          refine float_k (fun K hK => ?_)
          go_simp
          refine (cR w' hx).mono ?_
          rintro e w2 ⟨rfl, hx2⟩
          exact hK (.bool false) w2 hx2 rfl
        case f2 =>
          intro g w' hx hd
          refine op_run rfl ?_
          generalize hA : mkAct _ _ g = A
          have h2 : A.eval (.tmp 2) = .pointer (some ⟨P, 0, none⟩) := by rw [← hA]; exact mkAct_out _ _ _ _ rfl
          exact wp_load_mid 36 _ rfl P 0 h2 m.cells _ (HRW.out w' hx) Try.underlying36 rfl (by rw [mcells_len]; kernel_rfl) ⟨_, rfl, Ext.refl _ _, rfl⟩
        case f3 =>
          intro g w' hx hd
          refine op_run rfl ?_
          have e32 : g 32 = .agg m.cells.toArray := hd ⟨2, .data⟩ (by simp) rfl
          generalize hA : mkAct _ _ g = A
          have h32 : A.tmps[32]?.getD undef = .agg m.cells.toArray := by rw [← hA, mkAct_in2 _ _ _ _ rfl rfl]; exact e32
          refine float_k (fun K hK => ?_)
          go_simp
          refine (cL w' hx).mono ?_
          rintro e w2 ⟨rfl, hx2⟩
          exact hK (.bool false) w2 hx2 rfl
        case f4 =>
          intro g w' hx hd
          refine op_run rfl ?_
          have e31 : g 31 = .bool false := hd ⟨1, .data⟩ (by simp) rfl
          have e33 : g 33 = .bool false := hd ⟨3, .data⟩ (by simp) rfl
          generalize hA : mkAct _ _ g = A
          have h31 : A.tmps[31]?.getD undef = .bool false := by rw [← hA, mkAct_in2 _ _ _ _ rfl rfl]; exact e31
          have h33 : A.tmps[33]?.getD undef = .bool false := by rw [← hA, mkAct_in2 _ _ _ _ rfl rfl]; exact e33
          refine step_val (v := .bool false) (w' := w') ?_ ⟨_, rfl, Ext.refl _ _, rfl⟩
          simp [execOp, h31, h33, Result.andThen, go_sem]
      · intro g w5 hx5 hd
        have e34 : g 34 = .bool false := hd 4 (by decide)
        clear hd
        have HX5 := Hid.of (HX3.out.then0 hx5)
        have HB5 := Hid.of (HB3.out.keep hx5 (by simp))
        have HR5 := Hid.of (HB3.out.keep hx5 (by simp)).range
        have HA5 := Hid.of (HA3.out.keep0 hx5)
        have c6 := HCL.out _ HA5.out
        rw [hrd.out] at c6
        clear hx5 cR cL
        unfold mkAct
        simp only [List.zipIdx_cons, List.zipIdx_nil, List.map_cons, List.map_nil, Nat.zero_add, Nat.reduceAdd, List.contains_cons, List.contains_nil, Nat.reduceBEq, Bool.or_false, Bool.or_true, ↓reduceIte, Bool.false_eq_true]
        rw [e34]
        go_wp2_with (first
          | (refine wpList_load_mid rfl 36 _ rfl P 0 rfl m.cells _ HR5.out Try.underlying36 rfl (by rw [mcells_len]; kernel_rfl) ?_)
          | (go_at_call 23; (with_reducible refine c6.mono ?_); rintro e w6 ⟨rfl, hx6⟩; have HX6 := Hid.of (HX5.out.then0 hx6); have HB6 := Hid.of (HB5.out.keep hx6 (by simp)); have HA6 := Hid.of (HA5.out.keep0 hx6); clear hx6 c6))
        go_ret
        exact ⟨rfl, HX6.out⟩
  · have hfd : Hid (decide (FewM m es ss) = false) := Hid.of (decide_eq_false hf)
    clear hf
    go_wp2_with (first
      | (go_at_call 19; (with_reducible refine ch.mono ?_); rintro e w1 ⟨rfl, hx1⟩; have HX1 := Hid.of (HXW.out.then0 hx1); have HR1 := Hid.of (HB.out.keep hx1 (by simp)).range; have HB1 := Hid.of (HB.out.keep hx1 (by simp)); have hat1 := (HAt.out.keep0 hx1); have cf := few_any m es ss w1 hat1; rw [hfd.out] at cf; have HA1 := Hid.of hat1; clear hx1 ch hat1)
      | (refine wpList_load_mid rfl 36 _ rfl P 0 rfl m.cells _ HR1.out Try.underlying36 rfl (by rw [mcells_len]; kernel_rfl) ?_)
      | (go_at_call 20; (with_reducible refine cf.mono ?_); rintro e w2 ⟨rfl, hx2⟩; have HX2 := Hid.of (HX1.out.then0 hx2); clear hx2 cf))
    go_ret
    exact ⟨rfl, HX2.out⟩
end Go.Proofs.Ytaekkkcgoegllaa
