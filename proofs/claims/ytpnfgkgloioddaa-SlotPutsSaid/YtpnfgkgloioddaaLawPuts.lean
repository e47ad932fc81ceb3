/- SlotPuts: the walk. -/
import Derived.Test.YtpnfgkgloioddaaSlotd
namespace Go.Proofs.Ytpnfgkgloioddaa
open Go.RowKit
set_option linter.unusedVariables false

def putsΦ (B : Nat) (k i t : Int) (d : List UInt8) (n : Nat) (v : Value) (w : World) : Prop :=
  match n with
  | 0 => v = .pointer (some ⟨B, 0, none⟩)
  | 1 => v = .int .i64 k
  | 2 => ∃ q, v = .slice (some ⟨q, 0, none⟩) 1 1 ∧ Rd w 1 v 1 ([k].map (Value.int .i64))
  | 4 => v = .pointer (some ⟨B, 1, none⟩)
  | 5 => v = .int .i64 i
  | 6 => ∃ q, v = .slice (some ⟨q, 0, none⟩) 1 1 ∧ Rd w 1 v 1 ([i].map (Value.int .i64))
  | 8 => v = .pointer (some ⟨B, 2, none⟩)
  | 9 => v = .int .i64 t
  | 10 => ∃ q, v = .slice (some ⟨q, 0, none⟩) 1 1 ∧ Rd w 1 v 1 ([t].map (Value.int .i64))
  | 12 => v = .pointer (some ⟨B, 3, none⟩)
  | 13 => v = str d
  | 14 => ∃ q, v = .slice (some ⟨q, 0, none⟩) 1 1 ∧ Rd w 1 v 1 ([d].map str)
  | _ => True
theorem putsΦ_keep (B : Nat) (k i t : Int) (d : List UInt8) (n : Nat) (v : Value) (F : List Nat) (w w' : World) (h : putsΦ B k i t d n v w) (hx : Ext F w w') (hv : ∀ x ∈ vblocks v, x ∉ F) : putsΦ B k i t d n v w' := by
  unfold putsΦ at h ⊢
  split at h <;> first | exact h | (obtain ⟨q, rfl, hr⟩ := h; exact ⟨q, rfl, hr.keep hx hv⟩)
def putsC (A1 A2 A3 R : List UInt8) (s : Nat) (g : Nat → Value) (O : List Nat) (w : World) : Prop :=
  match s with
  | 0 => O = []
  | 1 => OwnB w (g 66) A1 ∧ ∀ x ∈ vblocks (g 66), x ∈ O
  | 2 => OwnB w (g 70) A2 ∧ ∀ x ∈ vblocks (g 70), x ∈ O
  | 3 => OwnB w (g 74) A3 ∧ ∀ x ∈ vblocks (g 74), x ∈ O
  | 4 => OwnB w (g 78) R ∧ ∀ x ∈ vblocks (g 78), x ∈ O
  | 5 => g 79 = str R
  | 6 => g 80 = str (sealB R)
  | 7 => g 5 = str (sealB R)
  | _ => True
theorem putsC_keep (A1 A2 A3 R : List UInt8) (s : Nat) (g : Nat → Value) (O : List Nat) (w w' : World) (h : putsC A1 A2 A3 R s g O w) (hx : Ext [] w w') : putsC A1 A2 A3 R s g O w' := by
  unfold putsC at h ⊢
  split at h <;> first | exact h | exact ⟨h.1.keep hx (by simp), h.2⟩

set_option maxRecDepth 100000 in
set_option maxHeartbeats 3200000 in
theorem puts_any {w : World} (r : Rc) (hr : r.wf) : Calls Try.prog 6 #[r.val] w fun e w' => e = .returned (.bool true) ∧ Ext [] w w' := by
  have pr := fun W => sput_any r W hr
  unfold PutPost at pr
  have hle := putV_le r
  have HG : Hid (putE r = 0 → getS (putV r) = 1 ∧ getR (putV r) = r) := fun h => get_put h
  have HV : Hid (putE r = 0 → putV r = sealB (recB r)) := fun h => if_pos h
  have HN : Hid (putE r ≠ 0 → putV r = []) := fun h => if_neg h
  have HE : Hid (putE r = if ¬ r.right then 1 else if 488 < r.data.length then 3 else 0) := rfl
  have HR : Hid (r.data.length ≤ 488 → (recB r).length = r.data.length + 20) := recB_le r
  have HB0 : Hid (recB r = ([] ++ encNums [r.kind] ++ encNums [r.idx] ++ encNums [r.term]) ++ encTexts [r.data]) := by
    show _ = _
    rw [encTexts_one]; simp [recB, encNums]
  obtain ⟨⟨wk0, wk1⟩, ⟨wi0, wi1⟩, ⟨wt0, wt1⟩, wd⟩ := hr
  obtain ⟨k, i, t, d⟩ := r
  simp only at wk0 wk1 wi0 wi1 wt0 wt1 wd HE HR HB0
  unfold Rc.val at pr ⊢
  simp only at pr ⊢
  obtain ⟨V, hV⟩ : ∃ V, V = putV ⟨k, i, t, d⟩ := ⟨_, rfl⟩
  obtain ⟨E, hE⟩ : ∃ E, E = putE ⟨k, i, t, d⟩ := ⟨_, rfl⟩
  obtain ⟨R, hR⟩ : ∃ R, R = recB ⟨k, i, t, d⟩ := ⟨_, rfl⟩
  rw [← hV, ← hE] at pr
  rw [← hV] at hle HG HV HN
  rw [← hE] at HG HV HN HE
  rw [← hR] at HV HR HB0
  clear hV hE hR
  go_enter Try.func6, Try.ntmps6
  go_wp2_with fail
  refine (head4_any _).mono ?_
  rintro e w1 ⟨rfl, hx⟩
  have ra : RcAt w1 w.heap.size ⟨k, i, t, d⟩ := (RcAt.new w k i t d).keep hx
  have hxw : Ext [] w w1 := ((Ext.refl _ _).alloc _).then0 hx
  obtain ⟨B, hq⟩ : ∃ q, q = w.heap.size := ⟨_, rfl⟩
  rw [← hq] at ra ⊢
  clear hx hq
  have a3 := ra.c3
  simp only at a3
  by_cases h6 : 1000 < d.length
  · clear pr
    go_wp2
    go_ret
    exact ⟨rfl, hxw⟩
  have a0 := ra.c0
  have a1 := ra.c1
  have a2 := ra.c2
  simp only at a0 a1 a2
  go_wp2_with fail
  refine (pr _).mono ?_
  rintro e w2 ⟨rfl, hx2⟩
  clear a0 a1 a2 a3 pr
  replace ra := ra.keep hx2
  replace hxw := hxw.then0 hx2
  clear hx2 w1
  have a0 := ra.c0
  have a1 := ra.c1
  have a2 := ra.c2
  have a3 := ra.c3
  simp only at a0 a1 a2 a3
  by_cases hr : Rc.right ⟨k, i, t, d⟩
  · obtain ⟨g0, g1, g2, g3, g4, g5⟩ := hr
    simp only at g0 g1 g2 g3 g4 g5
    have HE2 : Hid (E = if 488 < d.length then 3 else 0) := by show _ = _; rw [HE.out, if_neg (by simp [Rc.right, *])]
    clear HE
    by_cases hl : 488 < d.length
    · have e3 : E = 3 := by rw [HE2.out, if_pos hl]
      have v0 : V = [] := HN.out (by omega)
      subst e3 v0
      clear HG HV HN HR HB0 HE2
      go_wp2
      go_ret
      exact ⟨rfl, hxw⟩
    · have e3 : E = 0 := by rw [HE2.out, if_neg hl]
      subst e3
      have hg := HG.out rfl
      have hv := HV.out rfl
      have hRl := HR.out (by omega)
      have HB1 := HB0.out
      have HGv : Hid (getS V = 1 ∧ getR V = ⟨k, i, t, d⟩ ∧ V = sealB R) := ⟨hg.1, hg.2, hv⟩
      have hRle : R.length ≤ 1000 := by omega
      have hVle : V.length ≤ 512 := hle
      clear HG HV HN HE2 HR HB0 hg hv hle hRl
      go_wp2_with fail
      obtain ⟨A1, hA1⟩ : ∃ x, x = [] ++ encNums [k] := ⟨_, rfl⟩
      obtain ⟨A2, hA2⟩ : ∃ x, x = A1 ++ encNums [i] := ⟨_, rfl⟩
      obtain ⟨A3, hA3⟩ : ∃ x, x = A2 ++ encNums [t] := ⟨_, rfl⟩
      have l1 : A1.length ≤ 1000 := by rw [hA1]; simp [encNums_length]
      have l2 : A2.length ≤ 2000 := by rw [hA2, List.length_append]; simp [encNums_length]; omega
      have l3 : A3.length ≤ 3000 := by rw [hA3, List.length_append]; simp [encNums_length]; omega
      have HB : Hid (R = A3 ++ encTexts [d]) := by show _ = _; rw [HB1, hA3, hA2, hA1]
      have HA1 : Hid (A1 = [] ++ encNums [k]) := hA1
      have HA2 : Hid (A2 = A1 ++ encNums [i]) := hA2
      have HA3 : Hid (A3 = A2 ++ encNums [t]) := hA3
      clear HB1 hA1 hA2 hA3 a0 a1 a2 a3
      have hBW := ra.lt
      have c0 : ∀ w', Ext [] w2 w' → w'.cell? ⟨B, 0, none⟩ = some (.int .i64 k) := fun w' hx => (ra.keep hx).c0
      have c1 : ∀ w', Ext [] w2 w' → w'.cell? ⟨B, 1, none⟩ = some (.int .i64 i) := fun w' hx => (ra.keep hx).c1
      have c2 : ∀ w', Ext [] w2 w' → w'.cell? ⟨B, 2, none⟩ = some (.int .i64 t) := fun w' hx => (ra.keep hx).c2
      have c3 : ∀ w', Ext [] w2 w' → w'.cell? ⟨B, 3, none⟩ = some (str d) := fun w' hx => (ra.keep hx).c3
      refine wp_region_plan [63, 64, 65, 66, 67, 68, 69, 70, 71, 72, 73, 74, 75, 76, 77, 78, 79, 80, 5] [3, 7, 11, 15, 16, 17, 18] (putsΦ B k i t d) (putsC A1 A2 A3 R) (by kernel_rfl) (by kernel_rfl) (by kernel_rfl)
        (fun n v F w1 w2 h hx hv => putsΦ_keep B k i t d n v F w1 w2 h hx hv) (fun s g O w1 w2 h hx => putsC_keep _ _ _ _ s g O w1 w2 h hx) ?_ (fun _ _ _ => rfl) ?_ ?_
      · intro s g g' O w1 h hg
        have e66 : g 66 = g' 66 := hg 3 rfl
        have e70 : g 70 = g' 70 := hg 7 rfl
        have e74 : g 74 = g' 74 := hg 11 rfl
        have e78 : g 78 = g' 78 := hg 15 rfl
        have e79 : g 79 = g' 79 := hg 16 rfl
        have e80 : g 80 = g' 80 := hg 17 rfl
        have e5 : g 5 = g' 5 := hg 18 rfl
        unfold putsC at h ⊢
        rw [← e66, ← e70, ← e74, ← e78, ← e79, ← e80, ← e5]
        exact h
      · refine ⟨⟨fun _ => ?f0, fun h => by cases h⟩, ⟨fun _ => ?f1, fun h => by cases h⟩, ⟨fun _ => ?f2, fun h => by cases h⟩, ⟨fun h => (by cases h), fun _ => ?f3⟩, ⟨fun _ => ?f4, fun h => by cases h⟩, ⟨fun _ => ?f5, fun h => by cases h⟩, ⟨fun _ => ?f6, fun h => by cases h⟩, ⟨fun h => (by cases h), fun _ => ?f7⟩, ⟨fun _ => ?f8, fun h => by cases h⟩, ⟨fun _ => ?f9, fun h => by cases h⟩, ⟨fun _ => ?f10, fun h => by cases h⟩, ⟨fun h => (by cases h), fun _ => ?f11⟩, ⟨fun _ => ?f12, fun h => by cases h⟩, ⟨fun _ => ?f13, fun h => by cases h⟩, ⟨fun _ => ?f14, fun h => by cases h⟩, ⟨fun h => (by cases h), fun _ => ?f15⟩, ⟨fun h => (by cases h), fun _ => ?f16⟩, ⟨fun h => (by cases h), fun _ => ?f17⟩, ⟨fun h => (by cases h), fun _ => ?f18⟩, trivial⟩
        case f0 =>
          intro g w' hx hd
          generalize hA : mkAct _ _ g = A
          have h1 : A.tmps[1]?.getD undef = .pointer (some ⟨B, 0, none⟩) := by rw [← hA]; exact mkAct_out2 _ _ _ _ _ rfl rfl
          refine step_val (v := .pointer (some ⟨B, 0, none⟩)) (w' := w') ?_ ⟨_, rfl, Ext.refl _ _, rfl, ?_⟩
          · simp [execOp, h1, Result.andThen, go_sem]
          · have := hx.size; simp [vblocks]; omega
        case f1 =>
          intro g w' hx hd
          have e0 : g 63 = .pointer (some ⟨B, 0, none⟩) := hd ⟨0, .data⟩ (by simp) rfl rfl
          generalize hA : mkAct _ _ g = A
          have h1 : A.tmps[63]?.getD undef = .pointer (some ⟨B, 0, none⟩) := by rw [← hA, mkAct_in2 _ _ _ _ rfl rfl]; exact e0
          have c := c0 w' hx
          refine step_val (v := .int .i64 k) (w' := w') ?_ ⟨_, rfl, Ext.refl _ _, rfl, by simp [vblocks]⟩
          simp [execOp, h1, c, Result.andThen, go_sem]
        case f2 =>
          intro g w' hx hd
          have e1 : g 64 = .int .i64 k := hd ⟨1, .data⟩ (by simp) rfl rfl
          generalize hA : mkAct _ _ g = A
          have h1 : A.tmps[64]?.getD undef = .int .i64 k := by rw [← hA, mkAct_in2 _ _ _ _ rfl rfl]; exact e1
          refine step_val (v := .slice (some ⟨w'.heap.size, 0, none⟩) 1 1) (w' := w'.alloc (.cells #[.int .i64 k] 3)) ?_ ⟨_, rfl, (Ext.refl _ _).alloc _, ⟨w'.heap.size, rfl, Rd.litg #[.int .i64 k] 3 1 1 rfl (by unfold maxLen; omega) rfl⟩, by simp [vblocks]⟩
          simp [execOp, h1, Result.andThen, go_sem]
        case f3 =>
          intro s g O w' hs hx hd hsp hC hO
          rcases s with _ | _ | _ | _ | _ | _ | _ | s <;> simp at hs
          obtain rfl : O = [] := hC
          obtain ⟨q, e6, hr⟩ := hd ⟨2, .data⟩ (by simp) rfl rfl
          have e6' : g 65 = .slice (some ⟨q, 0, none⟩) 1 1 := e6
          rw [show g (slotOf _ 2) = g 65 from rfl, e6'] at hr
          generalize hA : mkAct _ _ g = A
          have h1 : A.tmps[65]?.getD undef = .slice (some ⟨q, 0, none⟩) 1 1 := by rw [← hA, mkAct_in2 _ _ _ _ rfl rfl]; exact e6'
          refine chain_k (Cn := fun v O' w'' => putsC A1 A2 A3 R 1 (updG g 66 v) O' w'') (fun K hK => ?_)
          go_simp
          refine (num_any (.slice none 0 0) [] _ 1 1 [k] w' (by omega) (by simp) (OwnB.nil _) hr (by simp [vblocks])).mono ?_
          rintro e w2 ⟨v', rfl, ho, hx2, hv⟩
          rw [← HA1.out] at ho
          refine hK v' (vblocks v') w2 hx2 ⟨ho, fun x hx' => hx'⟩ (fun x hx' => ⟨?_, ho.lt x hx'⟩)
          rcases hv x hx' with h | h
          · simp [vblocks] at h
          · exact Or.inr h
        case f4 =>
          intro g w' hx hd
          generalize hA : mkAct _ _ g = A
          have h1 : A.tmps[1]?.getD undef = .pointer (some ⟨B, 0, none⟩) := by rw [← hA]; exact mkAct_out2 _ _ _ _ _ rfl rfl
          refine step_val (v := .pointer (some ⟨B, 1, none⟩)) (w' := w') ?_ ⟨_, rfl, Ext.refl _ _, rfl, ?_⟩
          · simp [execOp, h1, Result.andThen, go_sem]
          · have := hx.size; simp [vblocks]; omega
        case f5 =>
          intro g w' hx hd
          have e0 : g 67 = .pointer (some ⟨B, 1, none⟩) := hd ⟨4, .data⟩ (by simp) rfl rfl
          generalize hA : mkAct _ _ g = A
          have h1 : A.tmps[67]?.getD undef = .pointer (some ⟨B, 1, none⟩) := by rw [← hA, mkAct_in2 _ _ _ _ rfl rfl]; exact e0
          have c := c1 w' hx
          refine step_val (v := .int .i64 i) (w' := w') ?_ ⟨_, rfl, Ext.refl _ _, rfl, by simp [vblocks]⟩
          simp [execOp, h1, c, Result.andThen, go_sem]
        case f6 =>
          intro g w' hx hd
          have e1 : g 68 = .int .i64 i := hd ⟨5, .data⟩ (by simp) rfl rfl
          generalize hA : mkAct _ _ g = A
          have h1 : A.tmps[68]?.getD undef = .int .i64 i := by rw [← hA, mkAct_in2 _ _ _ _ rfl rfl]; exact e1
          refine step_val (v := .slice (some ⟨w'.heap.size, 0, none⟩) 1 1) (w' := w'.alloc (.cells #[.int .i64 i] 3)) ?_ ⟨_, rfl, (Ext.refl _ _).alloc _, ⟨w'.heap.size, rfl, Rd.litg #[.int .i64 i] 3 1 1 rfl (by unfold maxLen; omega) rfl⟩, by simp [vblocks]⟩
          simp [execOp, h1, Result.andThen, go_sem]
        case f7 =>
          intro s g O w' hs hx hd hsp hC hO
          rcases s with _ | _ | _ | _ | _ | _ | _ | s <;> simp at hs
          obtain ⟨ho, hvO⟩ := hC
          obtain ⟨q, e6, hr⟩ := hd ⟨6, .data⟩ (by simp) rfl rfl
          have e6' : g 69 = .slice (some ⟨q, 0, none⟩) 1 1 := e6
          have hq43 : ∀ x ∈ vblocks (.slice (some ⟨q, 0, none⟩) 1 1), x ∉ O := by
            have := hsp ⟨6, .data⟩ (by simp) rfl rfl
            rw [show g (slotOf _ 6) = g 69 from rfl, e6'] at this
            exact this
          rw [show g (slotOf _ 6) = g 69 from rfl, e6'] at hr
          generalize hA : mkAct _ _ g = A
          have h1 : A.tmps[69]?.getD undef = .slice (some ⟨q, 0, none⟩) 1 1 := by rw [← hA, mkAct_in2 _ _ _ _ rfl rfl]; exact e6'
          have h2 : A.tmps[66]?.getD undef = g 66 := by rw [← hA, mkAct_in2 _ _ _ _ rfl rfl]
          refine chain_k (Cn := fun v O' w'' => putsC A1 A2 A3 R 2 (updG g 70 v) O' w'') (fun K hK => ?_)
          obtain ⟨v0, hv0⟩ : ∃ v, v = g 66 := ⟨_, rfl⟩
          rw [← hv0] at h2 ho hvO
          clear hv0 e6 e6' hsp
          go_simp
          refine (num_any v0 _ _ 1 1 [i] w' (by omega) (by omega) ho hr (fun x hx1 hx2 => hq43 x hx1 (hvO x hx2))).mono ?_
          rintro e w2 ⟨v', rfl, ho2, hx2, hv⟩
          rw [← HA2.out] at ho2
          refine hK v' (vblocks v') w2 (hx2.mono (fun x hx' => .inl (hvO x hx'))) ⟨ho2, fun x hx' => hx'⟩ (fun x hx' => ⟨?_, ho2.lt x hx'⟩)
          rcases hv x hx' with h | h
          · exact Or.inl (hvO x h)
          · exact Or.inr h
        case f8 =>
          intro g w' hx hd
          generalize hA : mkAct _ _ g = A
          have h1 : A.tmps[1]?.getD undef = .pointer (some ⟨B, 0, none⟩) := by rw [← hA]; exact mkAct_out2 _ _ _ _ _ rfl rfl
          refine step_val (v := .pointer (some ⟨B, 2, none⟩)) (w' := w') ?_ ⟨_, rfl, Ext.refl _ _, rfl, ?_⟩
          · simp [execOp, h1, Result.andThen, go_sem]
          · have := hx.size; simp [vblocks]; omega
        case f9 =>
          intro g w' hx hd
          have e0 : g 71 = .pointer (some ⟨B, 2, none⟩) := hd ⟨8, .data⟩ (by simp) rfl rfl
          generalize hA : mkAct _ _ g = A
          have h1 : A.tmps[71]?.getD undef = .pointer (some ⟨B, 2, none⟩) := by rw [← hA, mkAct_in2 _ _ _ _ rfl rfl]; exact e0
          have c := c2 w' hx
          refine step_val (v := .int .i64 t) (w' := w') ?_ ⟨_, rfl, Ext.refl _ _, rfl, by simp [vblocks]⟩
          simp [execOp, h1, c, Result.andThen, go_sem]
        case f10 =>
          intro g w' hx hd
          have e1 : g 72 = .int .i64 t := hd ⟨9, .data⟩ (by simp) rfl rfl
          generalize hA : mkAct _ _ g = A
          have h1 : A.tmps[72]?.getD undef = .int .i64 t := by rw [← hA, mkAct_in2 _ _ _ _ rfl rfl]; exact e1
          refine step_val (v := .slice (some ⟨w'.heap.size, 0, none⟩) 1 1) (w' := w'.alloc (.cells #[.int .i64 t] 3)) ?_ ⟨_, rfl, (Ext.refl _ _).alloc _, ⟨w'.heap.size, rfl, Rd.litg #[.int .i64 t] 3 1 1 rfl (by unfold maxLen; omega) rfl⟩, by simp [vblocks]⟩
          simp [execOp, h1, Result.andThen, go_sem]
        case f11 =>
          intro s g O w' hs hx hd hsp hC hO
          rcases s with _ | _ | _ | _ | _ | _ | _ | s <;> simp at hs
          obtain ⟨ho, hvO⟩ := hC
          obtain ⟨q, e6, hr⟩ := hd ⟨10, .data⟩ (by simp) rfl rfl
          have e6' : g 73 = .slice (some ⟨q, 0, none⟩) 1 1 := e6
          have hq43 : ∀ x ∈ vblocks (.slice (some ⟨q, 0, none⟩) 1 1), x ∉ O := by
            have := hsp ⟨10, .data⟩ (by simp) rfl rfl
            rw [show g (slotOf _ 10) = g 73 from rfl, e6'] at this
            exact this
          rw [show g (slotOf _ 10) = g 73 from rfl, e6'] at hr
          generalize hA : mkAct _ _ g = A
          have h1 : A.tmps[73]?.getD undef = .slice (some ⟨q, 0, none⟩) 1 1 := by rw [← hA, mkAct_in2 _ _ _ _ rfl rfl]; exact e6'
          have h2 : A.tmps[70]?.getD undef = g 70 := by rw [← hA, mkAct_in2 _ _ _ _ rfl rfl]
          refine chain_k (Cn := fun v O' w'' => putsC A1 A2 A3 R 3 (updG g 74 v) O' w'') (fun K hK => ?_)
          obtain ⟨v0, hv0⟩ : ∃ v, v = g 70 := ⟨_, rfl⟩
          rw [← hv0] at h2 ho hvO
          clear hv0 e6 e6' hsp
          go_simp
          refine (num_any v0 _ _ 1 1 [t] w' (by omega) (by omega) ho hr (fun x hx1 hx2 => hq43 x hx1 (hvO x hx2))).mono ?_
          rintro e w2 ⟨v', rfl, ho2, hx2, hv⟩
          rw [← HA3.out] at ho2
          refine hK v' (vblocks v') w2 (hx2.mono (fun x hx' => .inl (hvO x hx'))) ⟨ho2, fun x hx' => hx'⟩ (fun x hx' => ⟨?_, ho2.lt x hx'⟩)
          rcases hv x hx' with h | h
          · exact Or.inl (hvO x h)
          · exact Or.inr h
        case f12 =>
          intro g w' hx hd
          generalize hA : mkAct _ _ g = A
          have h1 : A.tmps[1]?.getD undef = .pointer (some ⟨B, 0, none⟩) := by rw [← hA]; exact mkAct_out2 _ _ _ _ _ rfl rfl
          refine step_val (v := .pointer (some ⟨B, 3, none⟩)) (w' := w') ?_ ⟨_, rfl, Ext.refl _ _, rfl, ?_⟩
          · simp [execOp, h1, Result.andThen, go_sem]
          · have := hx.size; simp [vblocks]; omega
        case f13 =>
          intro g w' hx hd
          have e0 : g 75 = .pointer (some ⟨B, 3, none⟩) := hd ⟨12, .data⟩ (by simp) rfl rfl
          generalize hA : mkAct _ _ g = A
          have h1 : A.tmps[75]?.getD undef = .pointer (some ⟨B, 3, none⟩) := by rw [← hA, mkAct_in2 _ _ _ _ rfl rfl]; exact e0
          have c := c3 w' hx
          refine step_val (v := str d) (w' := w') ?_ ⟨_, rfl, Ext.refl _ _, rfl, by simp [vblocks]⟩
          simp [execOp, h1, c, Result.andThen, go_sem]
        case f14 =>
          intro g w' hx hd
          have e1 : g 76 = str d := hd ⟨13, .data⟩ (by simp) rfl rfl
          generalize hA : mkAct _ _ g = A
          have h1 : A.tmps[76]?.getD undef = str d := by rw [← hA, mkAct_in2 _ _ _ _ rfl rfl]; exact e1
          refine step_val (v := .slice (some ⟨w'.heap.size, 0, none⟩) 1 1) (w' := w'.alloc (.cells #[.string ⟨d.toArray⟩] 9)) ?_ ⟨_, rfl, (Ext.refl _ _).alloc _, ⟨w'.heap.size, rfl, Rd.strs1 d rfl⟩, by simp [vblocks]⟩
          simp [execOp, h1, Result.andThen, go_sem]
        case f15 =>
          intro s g O w' hs hx hd hsp hC hO
          rcases s with _ | _ | _ | _ | _ | _ | _ | s <;> simp at hs
          obtain ⟨ho, hvO⟩ := hC
          obtain ⟨q, e6, hr⟩ := hd ⟨14, .data⟩ (by simp) rfl rfl
          have e6' : g 77 = .slice (some ⟨q, 0, none⟩) 1 1 := e6
          have hq43 : ∀ x ∈ vblocks (.slice (some ⟨q, 0, none⟩) 1 1), x ∉ O := by
            have := hsp ⟨14, .data⟩ (by simp) rfl rfl
            rw [show g (slotOf _ 14) = g 77 from rfl, e6'] at this
            exact this
          rw [show g (slotOf _ 14) = g 77 from rfl, e6'] at hr
          generalize hA : mkAct _ _ g = A
          have h1 : A.tmps[77]?.getD undef = .slice (some ⟨q, 0, none⟩) 1 1 := by rw [← hA, mkAct_in2 _ _ _ _ rfl rfl]; exact e6'
          have h2 : A.tmps[74]?.getD undef = g 74 := by rw [← hA, mkAct_in2 _ _ _ _ rfl rfl]
          refine chain_k (Cn := fun v O' w'' => putsC A1 A2 A3 R 4 (updG g 78 v) O' w'') (fun K hK => ?_)
          obtain ⟨v0, hv0⟩ : ∃ v, v = g 74 := ⟨_, rfl⟩
          rw [← hv0] at h2 ho hvO
          clear hv0 e6 e6' hsp
          go_simp
          refine (text_any v0 _ _ 1 1 [d] w' (by omega) (by omega) ho hr (fun x hx1 hx2 => hq43 x hx1 (hvO x hx2))).mono ?_
          rintro e w2 ⟨v', rfl, ho2, hx2, hv⟩
          rw [← HB.out] at ho2
          refine hK v' (vblocks v') w2 (hx2.mono (fun x hx' => .inl (hvO x hx'))) ⟨ho2, fun x hx' => hx'⟩ (fun x hx' => ⟨?_, ho2.lt x hx'⟩)
          rcases hv x hx' with h | h
          · exact Or.inl (hvO x h)
          · exact Or.inr h
        case f16 =>
          intro s g O w' hs hx hd hsp hC hO
          rcases s with _ | _ | _ | _ | _ | _ | _ | s <;> simp at hs
          obtain ⟨ho, hvO⟩ := hC
          generalize hA : mkAct _ _ g = A
          have h2 : A.tmps[78]?.getD undef = g 78 := by rw [← hA, mkAct_in2 _ _ _ _ rfl rfl]
          have hst := ho.str
          refine chain_k (Cn := fun v O' w'' => putsC A1 A2 A3 R 5 (updG g 79 v) O' w'') (fun K hK => ?_)
          obtain ⟨v0, hv0⟩ : ∃ v, v = g 78 := ⟨_, rfl⟩
          rw [← hv0] at h2 hst
          clear hv0 hsp ho hvO
          go_simp
          exact hK (str R) [] w' (Ext.refl _ _) rfl (by simp)
        case f17 =>
          intro s g O w' hs hx hd hsp hC hO
          rcases s with _ | _ | _ | _ | _ | _ | _ | s <;> simp at hs
          have hC' : g 79 = str R := hC
          generalize hA : mkAct _ _ g = A
          have h2 : A.tmps[79]?.getD undef = str R := by rw [← hA, mkAct_in2 _ _ _ _ rfl rfl]; exact hC'
          refine chain_k (Cn := fun v O' w'' => putsC A1 A2 A3 R 6 (updG g 80 v) O' w'') (fun K hK => ?_)
          clear hsp hC hC'
          go_simp
          refine (seal_any R w' (by omega)).mono ?_
          rintro e w2 ⟨rfl, hx2⟩
          exact hK (str (sealB R)) [] w2 (hx2.mono (by simp)) rfl (by simp)
        case f18 =>
          intro s g O w' hs hx hd hsp hC hO
          rcases s with _ | _ | _ | _ | _ | _ | _ | s <;> simp at hs
          have hC' : g 80 = str (sealB R) := hC
          generalize hA : mkAct _ _ g = A
          have h2 : A.tmps[80]?.getD undef = str (sealB R) := by rw [← hA, mkAct_in2 _ _ _ _ rfl rfl]; exact hC'
          refine chain_k (Cn := fun v O' w'' => putsC A1 A2 A3 R 7 (updG g 5 v) O' w'') (fun K hK => ?_)
          clear hsp hC hC'
          go_simp
          exact hK (str (sealB R)) [] w' (Ext.refl _ _) rfl (by simp)
      · intro g O w' hx hC hd
        have e5 : g 5 = str (sealB R) := hC
        rw [← HGv.out.2.2] at e5
        have rb := ra.keep hx
        replace hxw := hxw.then0 hx
        unfold mkAct
        simp only [List.zipIdx_cons, List.zipIdx_nil, List.map_cons, List.map_nil, Nat.zero_add, Nat.reduceAdd, List.contains_cons, List.contains_nil, Nat.reduceBEq, Bool.or_false, Bool.or_true, ↓reduceIte, Bool.false_eq_true]
        rw [e5]
        clear hC hd c0 c1 c2 c3 HB HA1 HA2 HA3 l1 l2 l3 ra hx e5 O
        have hop := sget_any V w' (by omega)
        unfold GetPost at hop
        rw [HGv.out.1, HGv.out.2.1] at hop
        unfold Rc.val at hop
        simp only at hop
        go_wp2_with fail
        refine hop.mono ?_
        rintro e w5 ⟨rfl, hx5⟩
        clear hop HGv
        replace rb := rb.keep hx5
        replace hxw := hxw.then0 hx5
        have b0 := rb.c0
        have b1 := rb.c1
        have b2 := rb.c2
        have b3 := rb.c3
        have bl := rb.lt
        simp only at b0 b1 b2 b3
        clear rb hx5
        have hV5 : (decide ((V.length : Int) ≤ 512)) = true := by simp; omega
        go_wp2
        go_ret
        exact ⟨rfl, hxw.alloc _⟩
  · have e3 : E = 1 := by rw [HE.out, if_pos hr]
    have v0 : V = [] := HN.out (by omega)
    have hcs : k < 0 ∨ (0 ≤ k ∧ i < 0) ∨ (0 ≤ k ∧ 0 ≤ i ∧ t < 0) ∨ (0 ≤ k ∧ 0 ≤ i ∧ 0 ≤ t ∧ 281474976710655 < k) ∨ (0 ≤ k ∧ 0 ≤ i ∧ 0 ≤ t ∧ k ≤ 281474976710655 ∧ 281474976710655 < i) ∨ (0 ≤ k ∧ 0 ≤ i ∧ 0 ≤ t ∧ k ≤ 281474976710655 ∧ i ≤ 281474976710655 ∧ 281474976710655 < t) := by
      unfold Rc.right at hr
      simp only at hr
      omega
    subst e3 v0
    clear hr HE HG HV HN HR HB0
    rcases hcs with h | ⟨g1, h⟩ | ⟨g1, g2, h⟩ | ⟨g1, g2, g3, h⟩ | ⟨g1, g2, g3, g4, h⟩ | ⟨g1, g2, g3, g4, g5, h⟩
    all_goals (
      go_wp2
      go_ret
      exact ⟨rfl, hxw⟩)
end Go.Proofs.Ytpnfgkgloioddaa
