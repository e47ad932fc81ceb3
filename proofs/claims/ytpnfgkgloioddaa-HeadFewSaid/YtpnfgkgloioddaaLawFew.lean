/- HeadFew: the walk. -/
import Derived.Test.YtpnfgkgloioddaaHdBeg
import Derived.Test.YtpnfgkgloioddaaBits
import Derived.Test.YtpnfgkgloioddaaRegInvG
namespace Go.Proofs.Ytpnfgkgloioddaa
open Go.RowKit
set_option linter.unusedVariables false
set_option linter.unusedSimpArgs false
attribute [local go_sem] i64_and3

theorem open_small {N : Int} (h0 : 0 ≤ N) (h2 : N < 2) : openE (newD N) = 7 := by
  have : N = 0 ∨ N = 1 := by omega
  rcases this with rfl | rfl
  · decide
  · decide
theorem putHD_since (t : Int) (h : Hd) (D : Dv) : (putHD t h D).since.length ≤ D.since.length + 2 := by
  have h1 := phK_since (hdRec (t + 1) h) D 1
  have h2 := phK_since (hdRec (t + 1) h) D 2
  unfold putHD
  split
  · omega
  · split <;> omega
theorem one_right : Hd.one.right := by decide
def FewOk (h : Hd) (N : Int) : Prop := openE (newD N) = 0 ∧ (osK (newD N) 2).h = Hd.one ∧ (osK (newD N) 2).turn = 0
def fw1 (h : Hd) (N : Int) : Dv := fallD 0 (putHD 0 h (newD N))
def fw2 (h : Hd) (N : Int) : Dv := putHD 1 Hd.one (fw1 h N)

def fewΦ (p q : Nat) (x v f bb : Int) (n : Nat) (y : Value) (w : World) : Prop :=
  match n with
  | 0 => y = .int .i64 0
  | 1 => y = .bool true
  | 2 => y = .bool true
  | 3 => y = .int .i64 0
  | 4 => y = .bool true
  | 5 => y = .bool true
  | 6 => y = .bool true
  | 7 => y = .int .i64 5
  | 8 => y = .bool true
  | 9 => y = .bool true
  | 10 => y = .bool true
  | 11 => y = .pointer (some ⟨q, 0, none⟩)
  | 12 => y = .agg #[.int .i64 x, .int .i64 v, .int .i64 f, .int .i64 bb]
  | 13 => y = .agg #[.int .i64 x, .int .i64 v, .int .i64 f, .int .i64 bb]
  | 14 => y = .bool true
  | 15 => y = .bool true
  | 16 => y = .bool true
  | 17 => y = .int .i64 5
  | 18 => y = .bool true
  | 19 => y = .bool true
  | 20 => y = .bool true
  | 21 => y = .pointer (some ⟨q, 0, none⟩)
  | 22 => y = .int .i64 5
  | 23 => y = .bool true
  | 24 => y = .bool true
  | 25 => y = .bool true
  | _ => True
theorem fewΦ_keep (p q : Nat) (x v f bb : Int) (n : Nat) (y : Value) (w w' : World) (h : fewΦ p q x v f bb n y w) (hx : Ext [] w w') : fewΦ p q x v f bb n y w' := by
  unfold fewΦ at h ⊢
  split at h <;> exact h
set_option maxRecDepth 100000 in
set_option maxHeartbeats 6400000 in
theorem few_any {w : World} (h : Hd) (_ : True) (n : Int) (_ : -9223372036854775808 ≤ n ∧ n ≤ 9223372036854775807) : Calls Try.prog 14 #[h.val, .int .i64 n] w fun e w' => e = .returned (.bool true) ∧ Ext [] w w' := by
  obtain ⟨N, hN⟩ : ∃ N, n % 4 = N := ⟨_, rfl⟩
  have hN0 : 0 ≤ N := by omega
  have hN4 : N < 4 := by omega
  have HR := fun W => right_any h W
  by_cases hr : h.right
  · have e1 : decide h.right = true := by simpa using hr
    rw [e1] at HR
    by_cases h2 : N < 2
    · have HO := open_small hN0 h2
      obtain ⟨x, v, f, bb⟩ := h
      unfold Hd.val at HR ⊢
      simp only at HR ⊢
      have hxz : ∀ a c d e : Value, Ext [] w (w.alloc (.cells #[a, c, d, e] 75)) := fun a c d e => (Ext.refl _ _).alloc _
      go_enter Try.func14, Try.ntmps14
      go_wp2_with fail
      refine (begin5_any _).mono ?_
      rintro e w1 ⟨rfl, hx⟩
      have hB : Blk w1 w.heap.size 75 [.int .i64 x, .int .i64 v, .int .i64 f, .int .i64 bb] := (Blk.new w 75 #[.int .i64 x, .int .i64 v, .int .i64 f, .int .i64 bb]).keep hx (by simp)
      have hxw : Ext [] w w1 := (hxz _ _ _ _).then0 hx
      clear hx hxz e1
      have b0 := hB.c 0
      have b1 := hB.c 1
      have b2 := hB.c 2
      have b3 := hB.c 3
      simp only [List.getElem?_cons_zero, List.getElem?_cons_succ] at b0 b1 b2 b3
      go_wp2_with fail
      refine (HR _).mono ?_
      rintro e w2 ⟨rfl, hx2⟩
      replace hxw := hxw.then0 hx2
      clear b0 b1 b2 b3 hB HR hx2
      go_wp2_with fail
      refine (new_n N w2 _ (Ext.refl _ _)).mono ?_
      rintro e w3 ⟨b, rfl, hd, -⟩
      go_wp2_with fail
      refine (open_no hd.o HO (by decide)).mono ?_
      rintro e w4 ⟨rfl, hd4, -⟩
      replace hxw := hxw.then0 hd4.ext
      clear hd hd4 HO
      go_wp2
      go_ret
      exact ⟨rfl, hxw⟩
    · have h2' : 2 ≤ N := by omega
      have HO : Hid (openE (newD N) = 0 ∧ (osK (newD N) 2).h = Hd.one ∧ (osK (newD N) 2).turn = 0) := open_new h2'
      obtain ⟨p1, p2, p3⟩ := put_two (Two.new N h2') (t := 0) (hd := h) ⟨hr, by decide⟩ (by decide)
      obtain ⟨f1, f2⟩ := put_fall0 p2.two.live (t := 1) (hd := Hd.one) ⟨one_right, by decide⟩ (by decide)
      have HP : Hid (putHE 0 h (newD N) = 0) := p1
      have HF : Hid (putHE 1 Hd.one (fw1 h N) = 5) := f1
      have HD : Hid ((fw2 h N).down = true) := f2
      have HS : Hid ((fw1 h N).since.length ≤ 900000 ∧ (fw2 h N).since.length ≤ 900000) := by
        have h1 : (fw1 h N).since = [] := p2.two.since
        have h2 := putHD_since 1 Hd.one (fw1 h N)
        show _ ∧ _
        unfold fw2
        rw [h1] at h2 ⊢
        simp at h2 ⊢
        omega
      clear p1 p2 p3 f1 f2
      have HV : Hid (h.val = .agg #[.int .i64 h.term, .int .i64 h.vote, .int .i64 h.first, .int .i64 h.base]) := rfl
      rw [HV.out] at HR ⊢
      obtain ⟨x, hx⟩ : ∃ x, x = h.term := ⟨_, rfl⟩
      obtain ⟨v, hv⟩ : ∃ x, x = h.vote := ⟨_, rfl⟩
      obtain ⟨f, hf⟩ : ∃ x, x = h.first := ⟨_, rfl⟩
      obtain ⟨bb, hbb⟩ : ∃ x, x = h.base := ⟨_, rfl⟩
      rw [← hx, ← hv, ← hf, ← hbb] at HR ⊢
      have HV2 : Hid (h.val = .agg #[.int .i64 x, .int .i64 v, .int .i64 f, .int .i64 bb]) := by show _ = _; rw [HV.out, hx, hv, hf, hbb]
      clear HV hx hv hf hbb hr e1 hN0
      have hxz : ∀ a c d e : Value, Ext [] w (w.alloc (.cells #[a, c, d, e] 75)) := fun a c d e => (Ext.refl _ _).alloc _
      go_enter Try.func14, Try.ntmps14
      go_wp2_with fail
      refine (begin5_any _).mono ?_
      rintro e w1 ⟨rfl, hx⟩
      have hB : Blk w1 w.heap.size 75 [.int .i64 x, .int .i64 v, .int .i64 f, .int .i64 bb] := (Blk.new w 75 #[.int .i64 x, .int .i64 v, .int .i64 f, .int .i64 bb]).keep hx (by simp)
      have hxw : Ext [] w w1 := (hxz _ _ _ _).then0 hx
      obtain ⟨p, hp⟩ : ∃ p, p = w.heap.size := ⟨_, rfl⟩
      rw [← hp] at hB ⊢
      clear hx hxz hp
      have b0 := hB.c 0
      have b1 := hB.c 1
      have b2 := hB.c 2
      have b3 := hB.c 3
      simp only [List.getElem?_cons_zero, List.getElem?_cons_succ] at b0 b1 b2 b3
      go_wp2_with fail
      refine (HR _).mono ?_
      rintro e w2 ⟨rfl, hx2⟩
      replace hxw := hxw.then0 hx2
      replace hB := hB.keep hx2 (by simp)
      clear b0 b1 b2 b3 HR hx2
      go_wp2_with fail
      refine (new_n N w2 _ (Ext.refl _ _)).mono ?_
      rintro e w3 ⟨b, rfl, hd, -⟩
      go_wp2_with fail
      refine (open_yes hd.o HO.out).mono ?_
      rintro e w4 ⟨q, rfl, hs, hd4, -, hq⟩
      have hq2 : w2.heap.size ≤ q := by have := hd.ext.size; omega
      clear hd HO hq
      have hB4 := hB.keep hd4.ext (by simp)
      have b0 := hB4.c 0
      have b1 := hB4.c 1
      have b2 := hB4.c 2
      have b3 := hB4.c 3
      simp only [List.getElem?_cons_zero, List.getElem?_cons_succ] at b0 b1 b2 b3
      have cP := put_yes (h := h) [] hd4 (by simp) hq2 hs (by decide) (by decide) (by simp) (by simp [newD]) HP.out
      rw [HV2.out] at cP
      go_wp2_with fail
      refine cP.mono ?_
      rintro e w5 ⟨rfl, hd5, hs5, -⟩
      clear b0 b1 b2 b3 hB4 hd4 hs HP cP
      go_wp2_with fail
      refine (fall_o b _ 0 w2 w5 [q] hd5 (by decide)).mono ?_
      rintro e w6 ⟨rfl, hd6, hk6⟩
      have hs6 : StAt w6 q b 1 h := hs5.kept hk6 (by simp)
      rw [← show fw1 h N = fallD 0 (putHD 0 h (newD N)) from rfl] at hd6
      clear hd5 hs5 hk6
      have cP := put_no (h := Hd.one) [] hd6 (by simp) hq2 hs6 (by decide) (by decide) (by simp) HS.out.1 HF.out (by decide)
      go_wp2_with fail
      refine cP.mono ?_
      rintro e w7 ⟨rfl, hd7, hs7, -⟩
      rw [← show fw2 h N = putHD 1 Hd.one (fw1 h N) from rfl] at hd7
      clear hd6 hs6 cP HF
      go_wp2_with fail
      refine (open_no hd7 (open_down HD.out) (by decide)).mono ?_
      rintro e w8 ⟨rfl, hd8, hx8⟩
      have hs8 := hs7.keep hx8 (by simp)
      clear hd7 hs7 hx8
      have hB8 := hB.keep hd8.ext (by simp)
      have b0 := hB8.c 0
      have b1 := hB8.c 1
      have b2 := hB8.c 2
      have b3 := hB8.c 3
      simp only [List.getElem?_cons_zero, List.getElem?_cons_succ] at b0 b1 b2 b3
      have cH : ∀ W, Ext [] w8 W → Calls Try.prog 46 #[.pointer (some ⟨q, 0, none⟩)] W fun e w' => e = .returned (.agg #[.int .i64 x, .int .i64 v, .int .i64 f, .int .i64 bb]) ∧ Ext [] W w' := by
        intro W hW
        have := head_o q b 1 h W (hs8.keep hW (by simp))
        rwa [HV2.out] at this
      have cS : ∀ W, Ext [] w8 W → Calls Try.prog 47 #[.pointer (some ⟨q, 0, none⟩)] W fun e w' => e = .returned (.int .i64 5) ∧ Ext [] W w' := by
        intro W hW
        exact (scrub_no [] (hd8.keep hW) (by simp) hq2 (hs8.keep hW (by simp)) (by decide) (by decide) (by simp) HS.out.2 (sc_down HD.out)).mono fun e w' ⟨h1, _, _, h2⟩ => ⟨h1, h2⟩
      have hxw8 : Ext [] w w8 := hxw.then0 hd8.ext
      have c0 : ∀ W, Ext [] w8 W → (W.cell? ⟨p, 0, none⟩ = some (.int .i64 x) ∧ W.cell? ⟨p, 1, none⟩ = some (.int .i64 v) ∧ W.cell? ⟨p, 2, none⟩ = some (.int .i64 f) ∧ W.cell? ⟨p, 3, none⟩ = some (.int .i64 bb)) := fun W hW => ⟨hW.cell (by simp) b0, hW.cell (by simp) b1, hW.cell (by simp) b2, hW.cell (by simp) b3⟩
      clear hd8 hs8 hB8 hB HS HD hxw b0 b1 b2 b3
      go_wp2_with fail
      refine wp_region_stepsg [47, 48, 49, 50, 51, 52, 53, 54, 55, 56, 57, 58, 59, 60, 61, 62, 63, 64, 65, 66, 67, 68, 69, 70, 71, 4] (fewΦ p q x v f bb) (by kernel_rfl) (by kernel_rfl) (fun n y w1 w2 h hx => fewΦ_keep p q x v f bb n y w1 w2 h hx) ?_ ?_
      · refine ⟨?f0, ?f1, ?f2, ?f3, ?f4, ?f5, ?f6, ?f7, ?f8, ?f9, ?f10, ?f11, ?f12, ?f13, ?f14, ?f15, ?f16, ?f17, ?f18, ?f19, ?f20, ?f21, ?f22, ?f23, ?f24, ?f25, trivial⟩
        case f0 =>
          intro g w' hx hd
          refine op_run rfl ?_
          generalize hA : mkAct _ _ g = A
          have h7 : A.tmps[7]?.getD undef = .int .i64 0 := by rw [← hA]; exact mkAct_out2 _ _ _ _ _ rfl rfl
          refine step_val (v := .int .i64 0) (w' := w') ?_ ⟨_, rfl, Ext.refl _ _, rfl⟩
          simp [execOp, h7, Result.andThen, go_sem]
        case f1 =>
          intro g w' hx hd
          refine op_run rfl ?_
          have e47 : g 47 = .int .i64 0 := hd ⟨0, .data⟩ (by simp) rfl
          generalize hA : mkAct _ _ g = A
          have h47 : A.tmps[47]?.getD undef = .int .i64 0 := by rw [← hA, mkAct_in2 _ _ _ _ rfl rfl]; exact e47
          refine step_val (v := .bool true) (w' := w') ?_ ⟨_, rfl, Ext.refl _ _, rfl⟩
          simp [execOp, h47, Result.andThen, go_sem]
        case f2 =>
          intro g w' hx hd
          refine op_run rfl ?_
          have e48 : g 48 = .bool true := hd ⟨1, .data⟩ (by simp) rfl
          generalize hA : mkAct _ _ g = A
          have h48 : A.tmps[48]?.getD undef = .bool true := by rw [← hA, mkAct_in2 _ _ _ _ rfl rfl]; exact e48
          refine step_val (v := .bool true) (w' := w') ?_ ⟨_, rfl, Ext.refl _ _, rfl⟩
          simp [execOp, h48, Result.andThen, go_sem]
        case f3 =>
          intro g w' hx hd
          have eg : g 49 = .bool true := hd ⟨2, .guard⟩ (by simp) rfl
          refine op_yes rfl rfl rfl rfl eg ?_
          generalize hA : mkAct _ _ g = A
          have h8 : A.tmps[8]?.getD undef = .int .i64 0 := by rw [← hA]; exact mkAct_out2 _ _ _ _ _ rfl rfl
          refine step_val (v := .int .i64 0) (w' := w') ?_ ⟨_, rfl, Ext.refl _ _, rfl⟩
          simp [execOp, h8, Result.andThen, go_sem]
        case f4 =>
          intro g w' hx hd
          have eg : g 49 = .bool true := hd ⟨2, .guard⟩ (by simp) rfl
          refine op_yes rfl rfl rfl rfl eg ?_
          have e50 : g 50 = .int .i64 0 := hd ⟨3, .data⟩ (by simp) rfl
          generalize hA : mkAct _ _ g = A
          have h50 : A.tmps[50]?.getD undef = .int .i64 0 := by rw [← hA, mkAct_in2 _ _ _ _ rfl rfl]; exact e50
          refine step_val (v := .bool true) (w' := w') ?_ ⟨_, rfl, Ext.refl _ _, rfl⟩
          simp [execOp, h50, Result.andThen, go_sem]
        case f5 =>
          intro g w' hx hd
          refine op_run rfl ?_
          have e49 : g 49 = .bool true := hd ⟨2, .data⟩ (by simp) rfl
          have e51 : g 51 = .bool true := hd ⟨4, .data⟩ (by simp) rfl
          generalize hA : mkAct _ _ g = A
          have h49 : A.tmps[49]?.getD undef = .bool true := by rw [← hA, mkAct_in2 _ _ _ _ rfl rfl]; exact e49
          have h51 : A.tmps[51]?.getD undef = .bool true := by rw [← hA, mkAct_in2 _ _ _ _ rfl rfl]; exact e51
          refine step_val (v := .bool true) (w' := w') ?_ ⟨_, rfl, Ext.refl _ _, rfl⟩
          simp [execOp, h49, h51, Result.andThen, go_sem]
        case f6 =>
          intro g w' hx hd
          refine op_run rfl ?_
          have e52 : g 52 = .bool true := hd ⟨5, .data⟩ (by simp) rfl
          generalize hA : mkAct _ _ g = A
          have h52 : A.tmps[52]?.getD undef = .bool true := by rw [← hA, mkAct_in2 _ _ _ _ rfl rfl]; exact e52
          refine step_val (v := .bool true) (w' := w') ?_ ⟨_, rfl, Ext.refl _ _, rfl⟩
          simp [execOp, h52, Result.andThen, go_sem]
        case f7 =>
          intro g w' hx hd
          have eg : g 53 = .bool true := hd ⟨6, .guard⟩ (by simp) rfl
          refine op_yes rfl rfl rfl rfl eg ?_
          generalize hA : mkAct _ _ g = A
          have h9 : A.tmps[9]?.getD undef = .int .i64 5 := by rw [← hA]; exact mkAct_out2 _ _ _ _ _ rfl rfl
          refine step_val (v := .int .i64 5) (w' := w') ?_ ⟨_, rfl, Ext.refl _ _, rfl⟩
          simp [execOp, h9, Result.andThen, go_sem]
        case f8 =>
          intro g w' hx hd
          have eg : g 53 = .bool true := hd ⟨6, .guard⟩ (by simp) rfl
          refine op_yes rfl rfl rfl rfl eg ?_
          have e54 : g 54 = .int .i64 5 := hd ⟨7, .data⟩ (by simp) rfl
          generalize hA : mkAct _ _ g = A
          have h54 : A.tmps[54]?.getD undef = .int .i64 5 := by rw [← hA, mkAct_in2 _ _ _ _ rfl rfl]; exact e54
          refine step_val (v := .bool true) (w' := w') ?_ ⟨_, rfl, Ext.refl _ _, rfl⟩
          simp [execOp, h54, Result.andThen, go_sem]
        case f9 =>
          intro g w' hx hd
          refine op_run rfl ?_
          have e53 : g 53 = .bool true := hd ⟨6, .data⟩ (by simp) rfl
          have e55 : g 55 = .bool true := hd ⟨8, .data⟩ (by simp) rfl
          generalize hA : mkAct _ _ g = A
          have h53 : A.tmps[53]?.getD undef = .bool true := by rw [← hA, mkAct_in2 _ _ _ _ rfl rfl]; exact e53
          have h55 : A.tmps[55]?.getD undef = .bool true := by rw [← hA, mkAct_in2 _ _ _ _ rfl rfl]; exact e55
          refine step_val (v := .bool true) (w' := w') ?_ ⟨_, rfl, Ext.refl _ _, rfl⟩
          simp [execOp, h53, h55, Result.andThen, go_sem]
        case f10 =>
          intro g w' hx hd
          refine op_run rfl ?_
          have e56 : g 56 = .bool true := hd ⟨9, .data⟩ (by simp) rfl
          generalize hA : mkAct _ _ g = A
          have h56 : A.tmps[56]?.getD undef = .bool true := by rw [← hA, mkAct_in2 _ _ _ _ rfl rfl]; exact e56
          refine step_val (v := .bool true) (w' := w') ?_ ⟨_, rfl, Ext.refl _ _, rfl⟩
          simp [execOp, h56, Result.andThen, go_sem]
        case f11 =>
          intro g w' hx hd
          have eg : g 57 = .bool true := hd ⟨10, .guard⟩ (by simp) rfl
          refine op_yes rfl rfl rfl rfl eg ?_
          generalize hA : mkAct _ _ g = A
          have h6 : A.tmps[6]?.getD undef = .pointer (some ⟨q, 0, none⟩) := by rw [← hA]; exact mkAct_out2 _ _ _ _ _ rfl rfl
          refine step_val (v := .pointer (some ⟨q, 0, none⟩)) (w' := w') ?_ ⟨_, rfl, Ext.refl _ _, rfl⟩
          simp [execOp, h6, Result.andThen, go_sem]
        case f12 =>
          intro g w' hx hd
          have eg : g 57 = .bool true := hd ⟨10, .guard⟩ (by simp) rfl
          refine op_yes rfl rfl rfl rfl eg ?_
          have e58 : g 58 = .pointer (some ⟨q, 0, none⟩) := hd ⟨11, .data⟩ (by simp) rfl
          generalize hA : mkAct _ _ g = A
          have h58 : A.tmps[58]?.getD undef = .pointer (some ⟨q, 0, none⟩) := by rw [← hA, mkAct_in2 _ _ _ _ rfl rfl]; exact e58
          refine float_k (fun K hK => ?_)
          go_simp
          refine (cH w' hx).mono ?_
          rintro e w2 ⟨rfl, hx2⟩
          exact hK (.agg #[.int .i64 x, .int .i64 v, .int .i64 f, .int .i64 bb]) w2 hx2 rfl
        case f13 =>
          intro g w' hx hd
          have eg : g 57 = .bool true := hd ⟨10, .guard⟩ (by simp) rfl
          refine op_yes rfl rfl rfl rfl eg ?_
          generalize hA : mkAct _ _ g = A
          have h2 : A.tmps[2]?.getD undef = .pointer (some ⟨p, 0, none⟩) := by rw [← hA]; exact mkAct_out2 _ _ _ _ _ rfl rfl
          obtain ⟨d0, d1, d2, d3⟩ := c0 w' hx
          refine step_val (v := .agg #[.int .i64 x, .int .i64 v, .int .i64 f, .int .i64 bb]) (w' := w') ?_ ⟨_, rfl, Ext.refl _ _, rfl⟩
          simp [execOp, h2, d0, d1, d2, d3, Result.andThen, go_sem]
        case f14 =>
          intro g w' hx hd
          have eg : g 57 = .bool true := hd ⟨10, .guard⟩ (by simp) rfl
          refine op_yes rfl rfl rfl rfl eg ?_
          have e59 : g 59 = .agg #[.int .i64 x, .int .i64 v, .int .i64 f, .int .i64 bb] := hd ⟨12, .data⟩ (by simp) rfl
          have e60 : g 60 = .agg #[.int .i64 x, .int .i64 v, .int .i64 f, .int .i64 bb] := hd ⟨13, .data⟩ (by simp) rfl
          generalize hA : mkAct _ _ g = A
          have h59 : A.tmps[59]?.getD undef = .agg #[.int .i64 x, .int .i64 v, .int .i64 f, .int .i64 bb] := by rw [← hA, mkAct_in2 _ _ _ _ rfl rfl]; exact e59
          have h60 : A.tmps[60]?.getD undef = .agg #[.int .i64 x, .int .i64 v, .int .i64 f, .int .i64 bb] := by rw [← hA, mkAct_in2 _ _ _ _ rfl rfl]; exact e60
          refine step_val (v := .bool true) (w' := w') ?_ ⟨_, rfl, Ext.refl _ _, rfl⟩
          simp [execOp, h59, h60, Result.andThen, go_sem]
        case f15 =>
          intro g w' hx hd
          refine op_run rfl ?_
          have e57 : g 57 = .bool true := hd ⟨10, .data⟩ (by simp) rfl
          have e61 : g 61 = .bool true := hd ⟨14, .data⟩ (by simp) rfl
          generalize hA : mkAct _ _ g = A
          have h57 : A.tmps[57]?.getD undef = .bool true := by rw [← hA, mkAct_in2 _ _ _ _ rfl rfl]; exact e57
          have h61 : A.tmps[61]?.getD undef = .bool true := by rw [← hA, mkAct_in2 _ _ _ _ rfl rfl]; exact e61
          refine step_val (v := .bool true) (w' := w') ?_ ⟨_, rfl, Ext.refl _ _, rfl⟩
          simp [execOp, h57, h61, Result.andThen, go_sem]
        case f16 =>
          intro g w' hx hd
          refine op_run rfl ?_
          have e62 : g 62 = .bool true := hd ⟨15, .data⟩ (by simp) rfl
          generalize hA : mkAct _ _ g = A
          have h62 : A.tmps[62]?.getD undef = .bool true := by rw [← hA, mkAct_in2 _ _ _ _ rfl rfl]; exact e62
          refine step_val (v := .bool true) (w' := w') ?_ ⟨_, rfl, Ext.refl _ _, rfl⟩
          simp [execOp, h62, Result.andThen, go_sem]
        case f17 =>
          intro g w' hx hd
          have eg : g 63 = .bool true := hd ⟨16, .guard⟩ (by simp) rfl
          refine op_yes rfl rfl rfl rfl eg ?_
          generalize hA : mkAct _ _ g = A
          have h11 : A.tmps[11]?.getD undef = .int .i64 5 := by rw [← hA]; exact mkAct_out2 _ _ _ _ _ rfl rfl
          refine step_val (v := .int .i64 5) (w' := w') ?_ ⟨_, rfl, Ext.refl _ _, rfl⟩
          simp [execOp, h11, Result.andThen, go_sem]
        case f18 =>
          intro g w' hx hd
          have eg : g 63 = .bool true := hd ⟨16, .guard⟩ (by simp) rfl
          refine op_yes rfl rfl rfl rfl eg ?_
          have e64 : g 64 = .int .i64 5 := hd ⟨17, .data⟩ (by simp) rfl
          generalize hA : mkAct _ _ g = A
          have h64 : A.tmps[64]?.getD undef = .int .i64 5 := by rw [← hA, mkAct_in2 _ _ _ _ rfl rfl]; exact e64
          refine step_val (v := .bool true) (w' := w') ?_ ⟨_, rfl, Ext.refl _ _, rfl⟩
          simp [execOp, h64, Result.andThen, go_sem]
        case f19 =>
          intro g w' hx hd
          refine op_run rfl ?_
          have e63 : g 63 = .bool true := hd ⟨16, .data⟩ (by simp) rfl
          have e65 : g 65 = .bool true := hd ⟨18, .data⟩ (by simp) rfl
          generalize hA : mkAct _ _ g = A
          have h63 : A.tmps[63]?.getD undef = .bool true := by rw [← hA, mkAct_in2 _ _ _ _ rfl rfl]; exact e63
          have h65 : A.tmps[65]?.getD undef = .bool true := by rw [← hA, mkAct_in2 _ _ _ _ rfl rfl]; exact e65
          refine step_val (v := .bool true) (w' := w') ?_ ⟨_, rfl, Ext.refl _ _, rfl⟩
          simp [execOp, h63, h65, Result.andThen, go_sem]
        case f20 =>
          intro g w' hx hd
          refine op_run rfl ?_
          have e66 : g 66 = .bool true := hd ⟨19, .data⟩ (by simp) rfl
          generalize hA : mkAct _ _ g = A
          have h66 : A.tmps[66]?.getD undef = .bool true := by rw [← hA, mkAct_in2 _ _ _ _ rfl rfl]; exact e66
          refine step_val (v := .bool true) (w' := w') ?_ ⟨_, rfl, Ext.refl _ _, rfl⟩
          simp [execOp, h66, Result.andThen, go_sem]
        case f21 =>
          intro g w' hx hd
          have eg : g 67 = .bool true := hd ⟨20, .guard⟩ (by simp) rfl
          refine op_yes rfl rfl rfl rfl eg ?_
          generalize hA : mkAct _ _ g = A
          have h6 : A.tmps[6]?.getD undef = .pointer (some ⟨q, 0, none⟩) := by rw [← hA]; exact mkAct_out2 _ _ _ _ _ rfl rfl
          refine step_val (v := .pointer (some ⟨q, 0, none⟩)) (w' := w') ?_ ⟨_, rfl, Ext.refl _ _, rfl⟩
          simp [execOp, h6, Result.andThen, go_sem]
        case f22 =>
          intro g w' hx hd
          have eg : g 67 = .bool true := hd ⟨20, .guard⟩ (by simp) rfl
          refine op_yes rfl rfl rfl rfl eg ?_
          have e68 : g 68 = .pointer (some ⟨q, 0, none⟩) := hd ⟨21, .data⟩ (by simp) rfl
          generalize hA : mkAct _ _ g = A
          have h68 : A.tmps[68]?.getD undef = .pointer (some ⟨q, 0, none⟩) := by rw [← hA, mkAct_in2 _ _ _ _ rfl rfl]; exact e68
          refine float_k (fun K hK => ?_)
          go_simp
          refine (cS w' hx).mono ?_
          rintro e w2 ⟨rfl, hx2⟩
          exact hK (.int .i64 5) w2 hx2 rfl
        case f23 =>
          intro g w' hx hd
          have eg : g 67 = .bool true := hd ⟨20, .guard⟩ (by simp) rfl
          refine op_yes rfl rfl rfl rfl eg ?_
          have e69 : g 69 = .int .i64 5 := hd ⟨22, .data⟩ (by simp) rfl
          generalize hA : mkAct _ _ g = A
          have h69 : A.tmps[69]?.getD undef = .int .i64 5 := by rw [← hA, mkAct_in2 _ _ _ _ rfl rfl]; exact e69
          refine step_val (v := .bool true) (w' := w') ?_ ⟨_, rfl, Ext.refl _ _, rfl⟩
          simp [execOp, h69, Result.andThen, go_sem]
        case f24 =>
          intro g w' hx hd
          refine op_run rfl ?_
          have e67 : g 67 = .bool true := hd ⟨20, .data⟩ (by simp) rfl
          have e70 : g 70 = .bool true := hd ⟨23, .data⟩ (by simp) rfl
          generalize hA : mkAct _ _ g = A
          have h67 : A.tmps[67]?.getD undef = .bool true := by rw [← hA, mkAct_in2 _ _ _ _ rfl rfl]; exact e67
          have h70 : A.tmps[70]?.getD undef = .bool true := by rw [← hA, mkAct_in2 _ _ _ _ rfl rfl]; exact e70
          refine step_val (v := .bool true) (w' := w') ?_ ⟨_, rfl, Ext.refl _ _, rfl⟩
          simp [execOp, h67, h70, Result.andThen, go_sem]
        case f25 =>
          intro g w' hx hd
          refine op_run rfl ?_
          have e71 : g 71 = .bool true := hd ⟨24, .data⟩ (by simp) rfl
          generalize hA : mkAct _ _ g = A
          have h71 : A.tmps[71]?.getD undef = .bool true := by rw [← hA, mkAct_in2 _ _ _ _ rfl rfl]; exact e71
          refine step_val (v := .bool true) (w' := w') ?_ ⟨_, rfl, Ext.refl _ _, rfl⟩
          simp [execOp, h71, Result.andThen, go_sem]
      · intro g w' hx hd
        have e4 : g 4 = .bool true := hd 25 (by decide)
        generalize hA : mkAct _ _ g = A
        have h4 : A.tmps.getD 4 undef = .bool true := by
          show A.eval (.tmp 4) = _
          rw [← hA, mkAct_in _ _ _ _ rfl rfl]; exact e4
        have hdf : A.defers = [] := by rw [← hA]; rfl
        clear hA hd e4
        go_wp2
        refine bodyPost_ret (results_tmp rfl _ _ _) hdf ?_
        rw [h4]
        exact ⟨rfl, hxw8.then0 hx⟩
  · have e1 : decide h.right = false := by simpa using hr
    rw [e1] at HR
    obtain ⟨x, v, f, bb⟩ := h
    unfold Hd.val at HR ⊢
    simp only at HR ⊢
    have hxz : ∀ a c d e : Value, Ext [] w (w.alloc (.cells #[a, c, d, e] 75)) := fun a c d e => (Ext.refl _ _).alloc _
    clear e1 hr
    go_enter Try.func14, Try.ntmps14
    go_wp2_with fail
    refine (begin5_any _).mono ?_
    rintro e w1 ⟨rfl, hx⟩
    have hB : Blk w1 w.heap.size 75 [.int .i64 x, .int .i64 v, .int .i64 f, .int .i64 bb] := (Blk.new w 75 #[.int .i64 x, .int .i64 v, .int .i64 f, .int .i64 bb]).keep hx (by simp)
    have hxw : Ext [] w w1 := (hxz _ _ _ _).then0 hx
    clear hx hxz
    have b0 := hB.c 0
    have b1 := hB.c 1
    have b2 := hB.c 2
    have b3 := hB.c 3
    simp only [List.getElem?_cons_zero, List.getElem?_cons_succ] at b0 b1 b2 b3
    go_wp2_with fail
    refine (HR _).mono ?_
    rintro e w2 ⟨rfl, hx2⟩
    replace hxw := hxw.then0 hx2
    clear b0 b1 b2 b3 hB HR hx2
    go_wp2
    go_ret
    exact ⟨rfl, hxw⟩
end Go.Proofs.Ytpnfgkgloioddaa
