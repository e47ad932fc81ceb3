/- The contracts of layer 4 over a rec: slot.Put, slot.Get. -/
import Derived.Test.YtmjgbkepngeckaaSum
import Derived.Test.YtmjgbkepngeckaaSlotLaw
import Derived.Test.YtmjgbkepngeckaaRegInv
import Derived.WalkLawsBesides
namespace Go.Proofs.Ytmjgbkepngeckaa
open Go.RowKit
set_option linter.unusedVariables false

def Rc.cells (r : Rc) : List Value := [.int .i64 r.kind, .int .i64 r.idx, .int .i64 r.term, str r.data]
def Rc.val (r : Rc) : Value := .agg #[.int .i64 r.kind, .int .i64 r.idx, .int .i64 r.term, str r.data]
/-- The numbers of a rec fit an int, its text a string. -/
def Rc.wf (r : Rc) : Prop := (-9223372036854775808 ≤ r.kind ∧ r.kind ≤ 9223372036854775807) ∧ (-9223372036854775808 ≤ r.idx ∧ r.idx ≤ 9223372036854775807) ∧ (-9223372036854775808 ≤ r.term ∧ r.term ≤ 9223372036854775807) ∧ r.data.length ≤ maxLen

theorem run_max3 {P : Program} (ts : Array TypeId) (t : TypeId) (k : IntKind) (x y z : Int) (w : World) : (Builtin.max_ ts t #[.int k x, .int k y, .int k z]).run P w = .ok (.int k (max (max x y) z)) w := by
  have hm : ∀ p q : Int, (if p < q then q else p) = max p q := fun p q => by rw [Int.max_def]; split <;> split <;> omega
  simp [Builtin.max_, Builtin.max2, hm]
attribute [local go_sem high] run_max3

/-- What Put hands back. -/
def PutPost (r : Rc) (w : World) (e : Ending) (w' : World) : Prop := e = .returned (.tuple #[str (putV r), .int .i64 (putE r)]) ∧ Ext [] w w'
theorem putPost (r : Rc) (w w' : World) {v : List UInt8} {n : Int} (hv : putV r = v) (hn : putE r = n) (hx : Ext [] w w') : PutPost r w (.returned (.tuple #[str v, .int .i64 n])) w' := by
  subst hv; subst hn; exact ⟨rfl, hx⟩

/-- What each operation of Put's last statement guarantees. -/
def putΦ (B : Nat) (k i t : Int) (d : List UInt8) (n : Nat) (v : Value) (w : World) : Prop :=
  match n with
  | 0 => v = .pointer (some ⟨B, 0, none⟩)
  | 1 => v = .int .i64 k
  | 2 => v = .pointer (some ⟨B, 1, none⟩)
  | 3 => v = .int .i64 i
  | 4 => v = .pointer (some ⟨B, 2, none⟩)
  | 5 => v = .int .i64 t
  | 6 => ∃ q, v = .slice (some ⟨q, 0, none⟩) 3 3 ∧ Rd w 1 v 3 ([k, i, t].map (Value.int .i64))
  | 8 => v = .pointer (some ⟨B, 3, none⟩)
  | 9 => v = str d
  | 10 => ∃ q, v = .slice (some ⟨q, 0, none⟩) 1 1 ∧ Rd w 1 v 1 ([d].map str)
  | 15 => v = .int .i64 0
  | _ => True
theorem putΦ_keep (B : Nat) (k i t : Int) (d : List UInt8) (n : Nat) (v : Value) (F : List Nat) (w w' : World) (h : putΦ B k i t d n v w) (hx : Ext F w w') (hv : ∀ x ∈ vblocks v, x ∉ F) : putΦ B k i t d n v w' := by
  unfold putΦ at h ⊢
  split at h <;> first | exact h | (obtain ⟨q, rfl, hr⟩ := h; exact ⟨q, rfl, hr.keep hx hv⟩)
def putC (A R : List UInt8) (s : Nat) (g : Nat → Value) (O : List Nat) (w : World) : Prop :=
  match s with
  | 0 => O = []
  | 1 => OwnB w (g 40) A ∧ ∀ x ∈ vblocks (g 40), x ∈ O
  | 2 => OwnB w (g 44) R ∧ ∀ x ∈ vblocks (g 44), x ∈ O
  | 3 => g 45 = str R
  | 4 => g 46 = str (sealB R)
  | 5 => g 2 = str (sealB R)
  | _ => True
theorem putC_keep (A R : List UInt8) (s : Nat) (g : Nat → Value) (O : List Nat) (w w' : World) (h : putC A R s g O w) (hx : Ext [] w w') : putC A R s g O w' := by
  unfold putC at h ⊢
  split at h <;> first | exact h | exact ⟨h.1.keep hx (by simp), h.2⟩

set_option maxRecDepth 100000 in
set_option maxHeartbeats 1600000 in
theorem sput_any (r : Rc) (w : World) (hwf : r.wf) : Calls Try.prog 64 #[r.val] w (PutPost r w) := by
  obtain ⟨k, i, t, d⟩ := r
  obtain ⟨⟨wk0, wk1⟩, ⟨wi0, wi1⟩, ⟨wt0, wt1⟩, wd⟩ := hwf
  simp only at wk0 wk1 wi0 wi1 wt0 wt1 wd
  unfold maxLen at wd
  show Calls _ _ #[.agg #[.int .i64 k, .int .i64 i, .int .i64 t, str d]] _ _
  by_cases hr : Rc.right ⟨k, i, t, d⟩
  · obtain ⟨a0, b0, c0, a1, b1, c1⟩ := hr
    simp only at a0 b0 c0 a1 b1 c1
    by_cases hl : 488 < d.length
    · have HP := fun w' hx => putPost ⟨k, i, t, d⟩ w w' (v := []) (n := 3) (by rw [putV, if_neg]; rw [putE, if_neg (by simp [Rc.right, *]), if_pos hl]; decide) (by rw [putE, if_neg (by simp [Rc.right, *]), if_pos hl]) hx
      go_enter Try.func64, Try.ntmps64
      go_wp2
      go_ret2
      exact HP _ ((Ext.refl _ _).alloc _)
    · have hE : putE ⟨k, i, t, d⟩ = 0 := by rw [putE, if_neg (by simp [Rc.right, *]), if_neg hl]
      have HP := fun w' hx => putPost ⟨k, i, t, d⟩ w w' (v := sealB (recB ⟨k, i, t, d⟩)) (n := 0) (by rw [putV, if_pos hE]) hE hx
      have hle := recB_le ⟨k, i, t, d⟩ (by simp only; omega)
      simp only at hle
      have hB : recB ⟨k, i, t, d⟩ = [] ++ encNums [k, i, t] ++ encTexts [d] := by rw [encTexts_one]; rfl
      obtain ⟨R, hRR⟩ : ∃ R, R = recB ⟨k, i, t, d⟩ := ⟨_, rfl⟩
      rw [← hRR] at hle HP hB
      have HB : Hid (R = [] ++ encNums [k, i, t] ++ encTexts [d]) := hB
      clear hE hB hRR
      go_enter Try.func64, Try.ntmps64
      go_wp2_with fail
      obtain ⟨W, hW⟩ : ∃ W, W = w.alloc (.cells #[.int .i64 k, .int .i64 i, .int .i64 t, .string ⟨d.toArray⟩] 39) := ⟨_, rfl⟩
      have hq : Blk W w.heap.size 39 [.int .i64 k, .int .i64 i, .int .i64 t, str d] := by rw [hW]; exact Blk.new w _ #[.int .i64 k, .int .i64 i, .int .i64 t, str d]
      have hxW : Ext [] w W := by rw [hW]; exact (Ext.refl _ _).alloc _
      rw [← hW]
      obtain ⟨B, hBB⟩ : ∃ B, B = w.heap.size := ⟨_, rfl⟩
      rw [← hBB] at hq ⊢
      have hBW := hq.lt
      clear hW hBB
      have c0 : ∀ w', Ext [] W w' → w'.cell? ⟨B, 0, none⟩ = some (.int .i64 k) := fun w' hx => (hq.keep hx (by simp)).c 0
      have c1 : ∀ w', Ext [] W w' → w'.cell? ⟨B, 1, none⟩ = some (.int .i64 i) := fun w' hx => (hq.keep hx (by simp)).c 1
      have c2 : ∀ w', Ext [] W w' → w'.cell? ⟨B, 2, none⟩ = some (.int .i64 t) := fun w' hx => (hq.keep hx (by simp)).c 2
      have c3 : ∀ w', Ext [] W w' → w'.cell? ⟨B, 3, none⟩ = some (str d) := fun w' hx => (hq.keep hx (by simp)).c 3
      refine wp_region_plan [33, 34, 35, 36, 37, 38, 39, 40, 41, 42, 43, 44, 45, 46, 2, 3] [7, 11, 12, 13, 14] (putΦ B k i t d) (putC ([] ++ encNums [k, i, t]) R) (by kernel_rfl) (by kernel_rfl) (by kernel_rfl)
        (fun n v F w1 w2 h hx hv => putΦ_keep B k i t d n v F w1 w2 h hx hv) (fun s g O w1 w2 h hx => putC_keep _ R s g O w1 w2 h hx) ?_ (fun _ _ _ => rfl) ?_ ?_
      · intro s g g' O w1 h hg
        have e40 : g 40 = g' 40 := hg 7 rfl
        have e44 : g 44 = g' 44 := hg 11 rfl
        have e45 : g 45 = g' 45 := hg 12 rfl
        have e46 : g 46 = g' 46 := hg 13 rfl
        have e2 : g 2 = g' 2 := hg 14 rfl
        unfold putC at h ⊢
        rw [← e40, ← e44, ← e45, ← e46, ← e2]
        exact h
      · refine ⟨⟨fun _ => ?f0, fun h => by cases h⟩, ⟨fun _ => ?f1, fun h => by cases h⟩, ⟨fun _ => ?f2, fun h => by cases h⟩, ⟨fun _ => ?f3, fun h => by cases h⟩, ⟨fun _ => ?f4, fun h => by cases h⟩, ⟨fun _ => ?f5, fun h => by cases h⟩, ⟨fun _ => ?f6, fun h => by cases h⟩, ⟨fun h => (by cases h), fun _ => ?f7⟩, ⟨fun _ => ?f8, fun h => by cases h⟩, ⟨fun _ => ?f9, fun h => by cases h⟩, ⟨fun _ => ?f10, fun h => by cases h⟩, ⟨fun h => (by cases h), fun _ => ?f11⟩, ⟨fun h => (by cases h), fun _ => ?f12⟩, ⟨fun h => (by cases h), fun _ => ?f13⟩, ⟨fun h => (by cases h), fun _ => ?f14⟩, ⟨fun _ => ?f15, fun h => by cases h⟩, trivial⟩
        case f0 =>
          intro g w' hx hd
          generalize hA : mkAct _ _ g = A
          have h1 : A.tmps[1]?.getD undef = .pointer (some ⟨B, 0, none⟩) := by rw [← hA]; exact mkAct_out2 _ _ _ _ _ rfl rfl
          refine step_val (v := .pointer (some ⟨B, 0, none⟩)) (w' := w') ?_ ⟨_, rfl, Ext.refl _ _, rfl, ?_⟩
          · simp [execOp, h1, Result.andThen, go_sem]
          · have := hx.size; simp [vblocks]; omega
        case f2 =>
          intro g w' hx hd
          generalize hA : mkAct _ _ g = A
          have h1 : A.tmps[1]?.getD undef = .pointer (some ⟨B, 0, none⟩) := by rw [← hA]; exact mkAct_out2 _ _ _ _ _ rfl rfl
          refine step_val (v := .pointer (some ⟨B, 1, none⟩)) (w' := w') ?_ ⟨_, rfl, Ext.refl _ _, rfl, ?_⟩
          · simp [execOp, h1, Result.andThen, go_sem]
          · have := hx.size; simp [vblocks]; omega
        case f4 =>
          intro g w' hx hd
          generalize hA : mkAct _ _ g = A
          have h1 : A.tmps[1]?.getD undef = .pointer (some ⟨B, 0, none⟩) := by rw [← hA]; exact mkAct_out2 _ _ _ _ _ rfl rfl
          refine step_val (v := .pointer (some ⟨B, 2, none⟩)) (w' := w') ?_ ⟨_, rfl, Ext.refl _ _, rfl, ?_⟩
          · simp [execOp, h1, Result.andThen, go_sem]
          · have := hx.size; simp [vblocks]; omega
        case f8 =>
          intro g w' hx hd
          generalize hA : mkAct _ _ g = A
          have h1 : A.tmps[1]?.getD undef = .pointer (some ⟨B, 0, none⟩) := by rw [← hA]; exact mkAct_out2 _ _ _ _ _ rfl rfl
          refine step_val (v := .pointer (some ⟨B, 3, none⟩)) (w' := w') ?_ ⟨_, rfl, Ext.refl _ _, rfl, ?_⟩
          · simp [execOp, h1, Result.andThen, go_sem]
          · have := hx.size; simp [vblocks]; omega
        case f1 =>
          intro g w' hx hd
          have e0 : g 33 = .pointer (some ⟨B, 0, none⟩) := hd ⟨0, .data⟩ (by simp) rfl rfl
          generalize hA : mkAct _ _ g = A
          have h1 : A.tmps[33]?.getD undef = .pointer (some ⟨B, 0, none⟩) := by rw [← hA, mkAct_in2 _ _ _ _ rfl rfl]; exact e0
          have c := c0 w' hx
          refine step_val (v := .int .i64 k) (w' := w') ?_ ⟨_, rfl, Ext.refl _ _, rfl, by simp [vblocks]⟩
          simp [execOp, h1, c, Result.andThen, go_sem]
        case f3 =>
          intro g w' hx hd
          have e0 : g 35 = .pointer (some ⟨B, 1, none⟩) := hd ⟨2, .data⟩ (by simp) rfl rfl
          generalize hA : mkAct _ _ g = A
          have h1 : A.tmps[35]?.getD undef = .pointer (some ⟨B, 1, none⟩) := by rw [← hA, mkAct_in2 _ _ _ _ rfl rfl]; exact e0
          have c := c1 w' hx
          refine step_val (v := .int .i64 i) (w' := w') ?_ ⟨_, rfl, Ext.refl _ _, rfl, by simp [vblocks]⟩
          simp [execOp, h1, c, Result.andThen, go_sem]
        case f5 =>
          intro g w' hx hd
          have e0 : g 37 = .pointer (some ⟨B, 2, none⟩) := hd ⟨4, .data⟩ (by simp) rfl rfl
          generalize hA : mkAct _ _ g = A
          have h1 : A.tmps[37]?.getD undef = .pointer (some ⟨B, 2, none⟩) := by rw [← hA, mkAct_in2 _ _ _ _ rfl rfl]; exact e0
          have c := c2 w' hx
          refine step_val (v := .int .i64 t) (w' := w') ?_ ⟨_, rfl, Ext.refl _ _, rfl, by simp [vblocks]⟩
          simp [execOp, h1, c, Result.andThen, go_sem]
        case f9 =>
          intro g w' hx hd
          have e0 : g 41 = .pointer (some ⟨B, 3, none⟩) := hd ⟨8, .data⟩ (by simp) rfl rfl
          generalize hA : mkAct _ _ g = A
          have h1 : A.tmps[41]?.getD undef = .pointer (some ⟨B, 3, none⟩) := by rw [← hA, mkAct_in2 _ _ _ _ rfl rfl]; exact e0
          have c := c3 w' hx
          refine step_val (v := str d) (w' := w') ?_ ⟨_, rfl, Ext.refl _ _, rfl, by simp [vblocks]⟩
          simp [execOp, h1, c, Result.andThen, go_sem]
        case f6 =>
          intro g w' hx hd
          have e1 : g 34 = .int .i64 k := hd ⟨1, .data⟩ (by simp) rfl rfl
          have e3 : g 36 = .int .i64 i := hd ⟨3, .data⟩ (by simp) rfl rfl
          have e5 : g 38 = .int .i64 t := hd ⟨5, .data⟩ (by simp) rfl rfl
          generalize hA : mkAct _ _ g = A
          have h1 : A.tmps[34]?.getD undef = .int .i64 k := by rw [← hA, mkAct_in2 _ _ _ _ rfl rfl]; exact e1
          have h2 : A.tmps[36]?.getD undef = .int .i64 i := by rw [← hA, mkAct_in2 _ _ _ _ rfl rfl]; exact e3
          have h3 : A.tmps[38]?.getD undef = .int .i64 t := by rw [← hA, mkAct_in2 _ _ _ _ rfl rfl]; exact e5
          refine step_val (v := .slice (some ⟨w'.heap.size, 0, none⟩) 3 3) (w' := w'.alloc (.cells #[.int .i64 k, .int .i64 i, .int .i64 t] 3)) ?_ ⟨_, rfl, (Ext.refl _ _).alloc _, ⟨w'.heap.size, rfl, Rd.litg #[.int .i64 k, .int .i64 i, .int .i64 t] 3 1 3 rfl (by unfold maxLen; omega) rfl⟩, by simp [vblocks]⟩
          simp [execOp, h1, h2, h3, Result.andThen, go_sem]
        case f10 =>
          intro g w' hx hd
          have e1 : g 42 = str d := hd ⟨9, .data⟩ (by simp) rfl rfl
          generalize hA : mkAct _ _ g = A
          have h1 : A.tmps[42]?.getD undef = str d := by rw [← hA, mkAct_in2 _ _ _ _ rfl rfl]; exact e1
          refine step_val (v := .slice (some ⟨w'.heap.size, 0, none⟩) 1 1) (w' := w'.alloc (.cells #[.string ⟨d.toArray⟩] 9)) ?_ ⟨_, rfl, (Ext.refl _ _).alloc _, ⟨w'.heap.size, rfl, Rd.strs1 d rfl⟩, by simp [vblocks]⟩
          simp [execOp, h1, Result.andThen, go_sem]
        case f15 =>
          intro g w' hx hd
          generalize hA : mkAct _ _ g = A
          refine step_val (v := .int .i64 0) (w' := w') ?_ ⟨_, rfl, Ext.refl _ _, rfl, by simp [vblocks]⟩
          simp [execOp, go_sem]
        case f7 =>
          intro s g O w' hs hx hd hsp hC hO
          rcases s with _ | _ | _ | _ | _ | s <;> simp at hs
          obtain rfl : O = [] := hC
          obtain ⟨q, e6, hr⟩ := hd ⟨6, .data⟩ (by simp) rfl rfl
          have e6' : g 39 = .slice (some ⟨q, 0, none⟩) 3 3 := e6
          rw [show g (slotOf _ 6) = g 39 from rfl, e6'] at hr
          generalize hA : mkAct _ _ g = A
          have h1 : A.tmps[39]?.getD undef = .slice (some ⟨q, 0, none⟩) 3 3 := by rw [← hA, mkAct_in2 _ _ _ _ rfl rfl]; exact e6'
          refine chain_k (Cn := fun v O' w'' => putC ([] ++ encNums [k, i, t]) R 1 (updG g 40 v) O' w'') (fun K hK => ?_)
          go_simp
          refine (num_any (.slice none 0 0) [] _ 3 3 [k, i, t] w' (by omega) (by simp) (OwnB.nil _) hr (by simp [vblocks])).mono ?_
          rintro e w2 ⟨v', rfl, ho, hx2, hv⟩
          refine hK v' (vblocks v') w2 hx2 ⟨ho, fun x hx' => hx'⟩ (fun x hx' => ⟨?_, ho.lt x hx'⟩)
          rcases hv x hx' with h | h
          · simp [vblocks] at h
          · exact Or.inr h
        case f11 =>
          intro s g O w' hs hx hd hsp hC hO
          rcases s with _ | _ | _ | _ | _ | s <;> simp at hs
          obtain ⟨ho, hvO⟩ := hC
          obtain ⟨q, e6, hr⟩ := hd ⟨10, .data⟩ (by simp) rfl rfl
          have e6' : g 43 = .slice (some ⟨q, 0, none⟩) 1 1 := e6
          have hq43 : ∀ x ∈ vblocks (.slice (some ⟨q, 0, none⟩) 1 1), x ∉ O := by
            have := hsp ⟨10, .data⟩ (by simp) rfl rfl
            rw [show g (slotOf _ 10) = g 43 from rfl, e6'] at this
            exact this
          rw [show g (slotOf _ 10) = g 43 from rfl, e6'] at hr
          generalize hA : mkAct _ _ g = A
          have h1 : A.tmps[43]?.getD undef = .slice (some ⟨q, 0, none⟩) 1 1 := by rw [← hA, mkAct_in2 _ _ _ _ rfl rfl]; exact e6'
          have h2 : A.tmps[40]?.getD undef = g 40 := by rw [← hA, mkAct_in2 _ _ _ _ rfl rfl]
          refine chain_k (Cn := fun v O' w'' => putC ([] ++ encNums [k, i, t]) R 2 (updG g 44 v) O' w'') (fun K hK => ?_)
          have hlA : ([] ++ encNums [k, i, t]).length ≤ 1000000000 := by simp [encNums_length]
          obtain ⟨v0, hv0⟩ : ∃ v, v = g 40 := ⟨_, rfl⟩
          rw [← hv0] at h2 ho hvO
          clear hv0 e6 e6' hsp
          go_simp
          refine (text_any v0 _ _ 1 1 [d] w' (by omega) hlA ho hr (fun x hx1 hx2 => hq43 x hx1 (hvO x hx2))).mono ?_
          rintro e w2 ⟨v', rfl, ho2, hx2, hv⟩
          rw [← HB.out] at ho2
          refine hK v' (vblocks v') w2 (hx2.mono (fun x hx' => .inl (hvO x hx'))) ⟨ho2, fun x hx' => hx'⟩ (fun x hx' => ⟨?_, ho2.lt x hx'⟩)
          rcases hv x hx' with h | h
          · exact Or.inl (hvO x h)
          · exact Or.inr h
        case f12 =>
          intro s g O w' hs hx hd hsp hC hO
          rcases s with _ | _ | _ | _ | _ | s <;> simp at hs
          obtain ⟨ho, hvO⟩ := hC
          generalize hA : mkAct _ _ g = A
          have h2 : A.tmps[44]?.getD undef = g 44 := by rw [← hA, mkAct_in2 _ _ _ _ rfl rfl]
          have hst := ho.str
          refine chain_k (Cn := fun v O' w'' => putC ([] ++ encNums [k, i, t]) R 3 (updG g 45 v) O' w'') (fun K hK => ?_)
          obtain ⟨v0, hv0⟩ : ∃ v, v = g 44 := ⟨_, rfl⟩
          rw [← hv0] at h2 hst
          clear hv0 hsp ho hvO
          go_simp
          exact hK (str R) [] w' (Ext.refl _ _) rfl (by simp)
        case f13 =>
          intro s g O w' hs hx hd hsp hC hO
          rcases s with _ | _ | _ | _ | _ | s <;> simp at hs
          have hC' : g 45 = str R := hC
          generalize hA : mkAct _ _ g = A
          have h2 : A.tmps[45]?.getD undef = str R := by rw [← hA, mkAct_in2 _ _ _ _ rfl rfl]; exact hC'
          refine chain_k (Cn := fun v O' w'' => putC ([] ++ encNums [k, i, t]) R 4 (updG g 46 v) O' w'') (fun K hK => ?_)
          clear hsp hC hC'
          go_simp
          refine (seal_any R w' (by omega)).mono ?_
          rintro e w2 ⟨rfl, hx2⟩
          exact hK (str (sealB R)) [] w2 (hx2.mono (by simp)) rfl (by simp)
        case f14 =>
          intro s g O w' hs hx hd hsp hC hO
          rcases s with _ | _ | _ | _ | _ | s <;> simp at hs
          have hC' : g 46 = str (sealB R) := hC
          generalize hA : mkAct _ _ g = A
          have h2 : A.tmps[46]?.getD undef = str (sealB R) := by rw [← hA, mkAct_in2 _ _ _ _ rfl rfl]; exact hC'
          refine chain_k (Cn := fun v O' w'' => putC ([] ++ encNums [k, i, t]) R 5 (updG g 2 v) O' w'') (fun K hK => ?_)
          clear hsp hC hC'
          go_simp
          exact hK (str (sealB R)) [] w' (Ext.refl _ _) rfl (by simp)
      · intro g O w' hx hC hd
        have e2 : g 2 = str (sealB R) := hC
        have e3 : g 3 = .int .i64 0 := hd 15 (by decide) rfl
        generalize hA : mkAct _ _ g = A
        have h2 : A.tmps.getD 2 undef = str (sealB R) := by
          show A.eval (.tmp 2) = _
          rw [← hA, mkAct_in _ _ _ _ rfl rfl]; exact e2
        have h3 : A.tmps.getD 3 undef = .int .i64 0 := by
          show A.eval (.tmp 3) = _
          rw [← hA, mkAct_in _ _ _ _ rfl rfl]; exact e3
        have h4 : A.defers = [] := by rw [← hA]; rfl
        clear hA hC hd e2 e3
        go_wp2
        refine bodyPost_ret (results_tmp2 rfl _ _ _) h4 ?_
        rw [h2, h3]
        exact HP _ (hxW.then0 hx)
  · have hE : putE ⟨k, i, t, d⟩ = 1 := by rw [putE, if_pos hr]
    have HP := fun w' hx => putPost ⟨k, i, t, d⟩ w w' (v := []) (n := 1) (by rw [putV, if_neg]; rw [hE]; decide) hE hx
    have hcs : k < 0 ∨ (0 ≤ k ∧ i < 0) ∨ (0 ≤ k ∧ 0 ≤ i ∧ t < 0) ∨ (0 ≤ k ∧ 0 ≤ i ∧ 0 ≤ t ∧ 281474976710655 < max k (max i t)) := by
      unfold Rc.right at hr
      simp only at hr
      omega
    clear hr hE
    rcases hcs with h | ⟨g1, h⟩ | ⟨g1, g2, h⟩ | ⟨g1, g2, g3, h⟩
    all_goals (
      go_enter Try.func64, Try.ntmps64
      go_wp2
      go_ret2
      exact HP _ ((Ext.refl _ _).alloc _))
end Go.Proofs.Ytmjgbkepngeckaa
