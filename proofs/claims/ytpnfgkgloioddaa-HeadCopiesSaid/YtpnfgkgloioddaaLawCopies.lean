/- HeadCopies: the walk. -/
import Derived.Test.YtpnfgkgloioddaaHdBeg
import Derived.Test.YtpnfgkgloioddaaBits
import Derived.Test.YtpnfgkgloioddaaRegInvG
namespace Go.Proofs.Ytpnfgkgloioddaa
open Go.RowKit
set_option linter.unusedVariables false
set_option linter.unusedSimpArgs false
attribute [local go_sem] i64_and7

def ccD (h : Hd) : Nat → Dv
  | 0 => newD 4
  | k + 1 => putHD k h (ccD h k)
def ccH (h : Hd) : Nat → Hd
  | 0 => Hd.one
  | _ + 1 => h
theorem ccD_two {h : Hd} (hr : h.right) : ∀ k : Nat, k ≤ 20 → Two (ccD h k) ∧ putHE k h (ccD h k) = 0 ∧ Good2 (ccD h (k + 1)) (k + 1 : Nat) h
  | 0, _ => by
    have t4 : Two (newD 4) := Two.new 4 (by decide)
    obtain ⟨a, b, _⟩ := put_two t4 (t := 0) (hd := h) ⟨hr, by decide⟩ (by decide)
    exact ⟨t4, a, b⟩
  | k + 1, hk => by
    obtain ⟨_, _, c⟩ := ccD_two hr k (by omega)
    obtain ⟨a, b, _⟩ := put_two c.two (t := (k + 1 : Nat)) (hd := h) ⟨hr, by omega⟩ (by omega)
    exact ⟨c.two, a, b⟩
theorem Good2.sr {D : Dv} {t : Int} {hd : Hd} (h : Good2 D t hd) (hr : hd.right) (t0 : 0 ≤ t) (t1 : t ≤ 281474976710655) {k : Int} (h0 : 0 ≤ k) (h1 : k < 2) : srE k D = 0 ∧ srS k D = 1 ∧ srR k D = hdRec t hd := by
  have hp := hdRec_put hr t0 t1
  obtain ⟨a, b⟩ := get_put hp
  have hk : D.lost k = false ∧ D.safe k = putV (hdRec t hd) := by
    have : k = 0 ∨ k = 1 := by omega
    rcases this with rfl | rfl
    · exact ⟨h.lost.1, h.safe.1⟩
    · exact ⟨h.lost.2, h.safe.2⟩
  have hsz := h.two.size
  have hre := readE_live h.two.live h0 (by omega)
  rw [hk.1, if_neg (by decide)] at hre
  have hv : readV k D = putV (hdRec t hd) := by rw [readV, if_pos hre, contD, h.two.since]; exact hk.2
  exact ⟨by rw [srE, hre]; rfl, by rw [srS, hre, hv, a]; rfl, by rw [srR, hre, hv, b]; rfl⟩
def copΦ (p r m : Nat) (x v f bb : Int) (T : List UInt8) (n : Nat) (y : Value) (w : World) : Prop :=
  match n with
  | 0 => y = .int .i64 0
  | 1 => y = .bool false
  | 2 => y = .bool false
  | 3 => y = .int .i64 1
  | 4 => y = .bool false
  | 5 => y = .bool false
  | 6 => y = .bool false
  | 7 => y = .agg #[.int .i64 1, .int .i64 (1 + m), .int .i64 x, str T]
  | 8 => y = .int .i64 (1 + m)
  | 9 => y = .pointer (some ⟨p, 0, none⟩)
  | 10 => y = .int .i64 x
  | 11 => y = .pointer (some ⟨p, 1, none⟩)
  | 12 => y = .int .i64 v
  | 13 => y = .pointer (some ⟨p, 2, none⟩)
  | 14 => y = .int .i64 f
  | 15 => y = .pointer (some ⟨p, 3, none⟩)
  | 16 => y = .int .i64 bb
  | 17 => ∃ s, y = .slice (some ⟨s, 0, none⟩) 3 3 ∧ Rd w 1 y 3 ([v, f, bb].map (Value.int .i64))
  | 18 => OwnB w y T
  | 19 => y = str T
  | 20 => y = .agg #[.int .i64 1, .int .i64 (1 + m), .int .i64 x, str T]
  | 21 => y = .bool false
  | 22 => y = .bool false
  | _ => True
theorem copΦ_keep (p r m : Nat) (x v f bb : Int) (T : List UInt8) (n : Nat) (y : Value) (w w' : World) (h : copΦ p r m x v f bb T n y w) (hx : Ext [] w w') : copΦ p r m x v f bb T n y w' := by
  unfold copΦ at h ⊢
  split at h <;> first | exact h | (obtain ⟨s, rfl, hr⟩ := h; exact ⟨s, rfl, hr.keep hx (by simp)⟩) | exact OwnB.keep h hx (by simp)
set_option maxRecDepth 100000 in
set_option maxHeartbeats 6400000 in
theorem copies_any {w : World} (h : Hd) (_ : True) (n : Int) (_ : -9223372036854775808 ≤ n ∧ n ≤ 9223372036854775807) : Calls Try.prog 13 #[h.val, .int .i64 n] w fun e w' => e = .returned (.bool true) ∧ Ext [] w w' := by
  obtain ⟨m, hm⟩ : ∃ m : Nat, n % 8 = (m : Int) := ⟨(n % 8).toNat, by omega⟩
  have hm7 : m ≤ 7 := by omega
  obtain ⟨M, hM⟩ : ∃ M : Nat, M = m + 1 := ⟨_, rfl⟩
  have HR := fun W => right_any h W
  by_cases hr : h.right
  · have e1 : decide h.right = true := by simpa using hr
    rw [e1] at HR
    have HO : Hid (openE (newD 4) = 0 ∧ (osK (newD 4) 2).h = Hd.one ∧ (osK (newD 4) 2).turn = 0) := open_new (by decide)
    have HP : Hid (∀ k : Nat, k ≤ 20 → Two (ccD h k) ∧ putHE k h (ccD h k) = 0 ∧ Good2 (ccD h (k + 1)) (k + 1 : Nat) h) := ccD_two hr
    have HG := (ccD_two hr m (by omega)).2.2
    rw [← hM] at HG
    have hM1 : M ≤ m + 1 := by omega
    have hM2 : m + 1 ≤ M := by omega
    clear hM
    have HS : Hid (∀ k : Int, 0 ≤ k → k < 2 → srE k (ccD h M) = 0 ∧ srS k (ccD h M) = 1 ∧ srR k (ccD h M) = hdRec M h) := fun k h0 h1 => HG.sr hr (by omega) (by omega) h0 h1
    have HT : Hid (hdText h = [] ++ encNums [h.vote, h.first, h.base]) := rfl
    have HV : Hid (h.val = .agg #[.int .i64 h.term, .int .i64 h.vote, .int .i64 h.first, .int .i64 h.base]) := rfl
    have HRV : Hid ((hdRec M h).val = .agg #[.int .i64 1, .int .i64 M, .int .i64 h.term, str (hdText h)]) := rfl
    rw [HV.out] at HR ⊢
    obtain ⟨x, hx⟩ : ∃ x, x = h.term := ⟨_, rfl⟩
    obtain ⟨v, hv⟩ : ∃ x, x = h.vote := ⟨_, rfl⟩
    obtain ⟨f, hf⟩ : ∃ x, x = h.first := ⟨_, rfl⟩
    obtain ⟨bb, hbb⟩ : ∃ x, x = h.base := ⟨_, rfl⟩
    obtain ⟨T, hT⟩ : ∃ x, x = hdText h := ⟨_, rfl⟩
    rw [← hx, ← hv, ← hf, ← hbb] at HR ⊢
    have HV2 : Hid (h.val = .agg #[.int .i64 x, .int .i64 v, .int .i64 f, .int .i64 bb]) := by show _ = _; rw [HV.out, hx, hv, hf, hbb]
    have HRV2 : Hid ((hdRec M h).val = .agg #[.int .i64 1, .int .i64 (1 + m), .int .i64 x, str T]) := by
      show _ = _
      rw [HRV.out, hx, hT]
      have : (M : Int) = 1 + m := by omega
      rw [this]
    have HT2 : Hid (T = [] ++ encNums [v, f, bb]) := by show _ = _; rw [hT, HT.out, hv, hf, hbb]
    clear HV HT HRV hx hv hf hbb hT hr e1 HG
    have hxz : ∀ a c d e : Value, Ext [] w (w.alloc (.cells #[a, c, d, e] 75)) := fun a c d e => (Ext.refl _ _).alloc _
    go_enter Try.func13, Try.ntmps13
    go_wp2_with fail
    refine (begin5_any _).mono ?_
    rintro e w1 ⟨rfl, hx⟩
    have hB : Blk w1 w.heap.size 75 [.int .i64 x, .int .i64 v, .int .i64 f, .int .i64 bb] := (Blk.new w 75 #[.int .i64 x, .int .i64 v, .int .i64 f, .int .i64 bb]).keep hx (by simp)
    have hxw : Ext [] w w1 := (hxz _ _ _ _).then0 hx
    obtain ⟨p, hp⟩ : ∃ p, p = w.heap.size := ⟨_, rfl⟩
    rw [← hp] at hB ⊢
    clear hx hxz hp
    have b0 := hB.c 0
    have b1 := hB.c 1
    have b2 := hB.c 2
    have b3 := hB.c 3
    simp only [List.getElem?_cons_zero, List.getElem?_cons_succ] at b0 b1 b2 b3
    go_wp2_with fail
    refine (HR _).mono ?_
    rintro e w2 ⟨rfl, hx2⟩
    replace hxw := hxw.then0 hx2
    replace hB := hB.keep hx2 (by simp)
    clear b0 b1 b2 b3 HR hx2
    go_wp2_with fail
    refine (new_n 4 w2 _ (Ext.refl _ _)).mono ?_
    rintro e w3 ⟨b, rfl, hd, -⟩
    go_wp2_with fail
    refine (open_yes hd.o HO.out).mono ?_
    rintro e w4 ⟨q, rfl, hs, hd4, -, hq⟩
    have hq2 : w2.heap.size ≤ q := by have := hd.ext.size; omega
    clear hd HO hq
    go_wp2_with fail
    go_loopw [8] (fun i wr => ∃ k : Nat, k ≤ M ∧ i = .int .i64 k ∧ DevO w2 wr b (ccD h k) [q] ∧ StAt wr q b k (ccH h k)) (fun i _ => M - (intOf i).toNat)
    case atStart => exact ⟨0, by omega, rfl, hd4, hs⟩
    case round =>
      clear hd4 hs
      obtain ⟨k, hk, rfl, hd, hs⟩ := hrel
      by_cases hlt : k < M
      · have hB4 := hB.keep hd.ext (by simp)
        have b0 := hB4.c 0
        have b1 := hB4.c 1
        have b2 := hB4.c 2
        have b3 := hB4.c 3
        simp only [List.getElem?_cons_zero, List.getElem?_cons_succ] at b0 b1 b2 b3
        obtain ⟨t1, t2, -⟩ := HP.out k (by omega)
        have cP := put_yes (h := h) [] hd (by simp) hq2 hs (by omega) (by omega) (by simp) (by rw [t1.since]; simp) t2
        rw [HV2.out] at cP
        have hb4 := hB4.lt
        clear t1 t2 hB4
        go_wp2_with fail
        refine cP.mono ?_
        rintro e w5 ⟨rfl, hd5, hs5, -⟩
        have hs6 : StAt w5 q b (k + 1 : Nat) (ccH h (k + 1)) := hs5
        have hd6 : DevO w2 w5 b (ccD h (k + 1)) [q] := hd5
        clear b0 b1 b2 b3 hd hs cP hd5 hs5
        go_wp2
        go_roundw
        case rel => exact ⟨k + 1, by omega, by go_num, hd6, hs6⟩
        case measure => simp [intOf]; omega
      · have hkM : k = M := by omega
        subst hkM
        clear hs hq2 HP
        go_wp2
        go_loopw [9] (fun i wr => ∃ j : Nat, j ≤ 2 ∧ i = .int .i64 j ∧ DevO w2 wr b (ccD h k) [q]) (fun i _ => 2 - (intOf i).toNat)
        case atStart => exact ⟨0, by omega, rfl, hd⟩
        case round =>
          clear hd
          obtain ⟨j, hj2, rfl, hd⟩ := hrel
          by_cases hlt2 : j < 2
          · have cR := sread_o b (ccD h k) j w2 wr [q] hd
            obtain ⟨e1, e2, e3⟩ := HS.out j (by omega) (by omega)
            unfold SReadPost at cR
            rw [e1, e2, e3, HRV2.out] at cR
            clear e1 e2 e3
            go_wp2_with fail
            refine cR.mono ?_
            rintro e w5 ⟨rfl, hd5, -⟩
            clear cR
            have hB4 := (hB.keep hd5.ext (by simp)).alloc (.cells #[.int .i64 1, .int .i64 (1 + m), .int .i64 x, str T] 40)
            have hd6 := hd5.keep ((Ext.refl [] w5).alloc (.cells #[.int .i64 1, .int .i64 (1 + m), .int .i64 x, str T] 40))
            have hQ := Blk.newg (w := w5) (t := 40) (C := #[.int .i64 1, .int .i64 (1 + m), .int .i64 x, str T]) rfl
            go_wp2_with fail
            obtain ⟨W, hW⟩ : ∃ W, W = w5.alloc (.cells #[.int .i64 1, .int .i64 (1 + m), .int .i64 x, str T] 40) := ⟨_, rfl⟩
            obtain ⟨r, hrr⟩ : ∃ r, r = w5.heap.size := ⟨_, rfl⟩
            rw [← hW, ← hrr] at hQ ⊢
            rw [← hW] at hB4 hd6
            clear hW hrr hd hd5
            have c0 : ∀ W', Ext [] W W' → (W'.cell? ⟨r, 0, none⟩ = some (.int .i64 1) ∧ W'.cell? ⟨r, 1, none⟩ = some (.int .i64 (1 + m)) ∧ W'.cell? ⟨r, 2, none⟩ = some (.int .i64 x) ∧ W'.cell? ⟨r, 3, none⟩ = some (str T)) := fun W' hx => by
              have hh := hQ.keep hx (by simp)
              exact ⟨hh.c 0, hh.c 1, hh.c 2, hh.c 3⟩
            have c1 : ∀ W', Ext [] W W' → W'.cell? ⟨p, 0, none⟩ = some (.int .i64 x) := fun W' hx => (hB4.keep hx (by simp)).c 0
            have c2 : ∀ W', Ext [] W W' → W'.cell? ⟨p, 1, none⟩ = some (.int .i64 v) := fun W' hx => (hB4.keep hx (by simp)).c 1
            have c3 : ∀ W', Ext [] W W' → W'.cell? ⟨p, 2, none⟩ = some (.int .i64 f) := fun W' hx => (hB4.keep hx (by simp)).c 2
            have c4 : ∀ W', Ext [] W W' → W'.cell? ⟨p, 3, none⟩ = some (.int .i64 bb) := fun W' hx => (hB4.keep hx (by simp)).c 3
            refine wp_region_stepsg [52, 53, 54, 55, 56, 57, 58, 59, 60, 61, 62, 63, 64, 65, 66, 67, 68, 69, 70, 71, 72, 73, 74] (copΦ p r m x v f bb T) (by kernel_rfl) (by kernel_rfl) (fun n y w1 w2 h hx => copΦ_keep p r m x v f bb T n y w1 w2 h hx) ?_ ?_
            · refine ⟨?f0, ?f1, ?f2, ?f3, ?f4, ?f5, ?f6, ?f7, ?f8, ?f9, ?f10, ?f11, ?f12, ?f13, ?f14, ?f15, ?f16, ?f17, ?f18, ?f19, ?f20, ?f21, ?f22, trivial⟩
              case f0 =>
                intro g w' hx hd
                refine op_run rfl ?_
                generalize hA : mkAct _ _ g = A
                have h12 : A.tmps[12]?.getD undef = .int .i64 0 := by rw [← hA]; exact mkAct_out2 _ _ _ _ _ rfl rfl
                refine step_val (v := .int .i64 0) (w' := w') ?_ ⟨_, rfl, Ext.refl _ _, rfl⟩
                simp [execOp, h12, Result.andThen, go_sem]
              case f1 =>
                intro g w' hx hd
                refine op_run rfl ?_
                have e52 : g 52 = .int .i64 0 := hd ⟨0, .data⟩ (by simp) rfl
                generalize hA : mkAct _ _ g = A
                have h52 : A.tmps[52]?.getD undef = .int .i64 0 := by rw [← hA, mkAct_in2 _ _ _ _ rfl rfl]; exact e52
                refine step_val (v := .bool false) (w' := w') ?_ ⟨_, rfl, Ext.refl _ _, rfl⟩
                simp [execOp, h52, Result.andThen, go_sem]
              case f2 =>
                intro g w' hx hd
                refine op_run rfl ?_
                have e53 : g 53 = .bool false := hd ⟨1, .data⟩ (by simp) rfl
                generalize hA : mkAct _ _ g = A
                have h53 : A.tmps[53]?.getD undef = .bool false := by rw [← hA, mkAct_in2 _ _ _ _ rfl rfl]; exact e53
                refine step_val (v := .bool false) (w' := w') ?_ ⟨_, rfl, Ext.refl _ _, rfl⟩
                simp [execOp, h53, Result.andThen, go_sem]
              case f3 =>
                intro g w' hx hd
                have eg : g 54 = .bool false := hd ⟨2, .guard⟩ (by simp) rfl
                refine op_yes rfl rfl rfl rfl eg ?_
                generalize hA : mkAct _ _ g = A
                have h11 : A.tmps[11]?.getD undef = .int .i64 1 := by rw [← hA]; exact mkAct_out2 _ _ _ _ _ rfl rfl
                refine step_val (v := .int .i64 1) (w' := w') ?_ ⟨_, rfl, Ext.refl _ _, rfl⟩
                simp [execOp, h11, Result.andThen, go_sem]
              case f4 =>
                intro g w' hx hd
                have eg : g 54 = .bool false := hd ⟨2, .guard⟩ (by simp) rfl
                refine op_yes rfl rfl rfl rfl eg ?_
                have e55 : g 55 = .int .i64 1 := hd ⟨3, .data⟩ (by simp) rfl
                generalize hA : mkAct _ _ g = A
                have h55 : A.tmps[55]?.getD undef = .int .i64 1 := by rw [← hA, mkAct_in2 _ _ _ _ rfl rfl]; exact e55
                refine step_val (v := .bool false) (w' := w') ?_ ⟨_, rfl, Ext.refl _ _, rfl⟩
                simp [execOp, h55, Result.andThen, go_sem]
              case f5 =>
                intro g w' hx hd
                refine op_run rfl ?_
                have e54 : g 54 = .bool false := hd ⟨2, .data⟩ (by simp) rfl
                have e56 : g 56 = .bool false := hd ⟨4, .data⟩ (by simp) rfl
                generalize hA : mkAct _ _ g = A
                have h54 : A.tmps[54]?.getD undef = .bool false := by rw [← hA, mkAct_in2 _ _ _ _ rfl rfl]; exact e54
                have h56 : A.tmps[56]?.getD undef = .bool false := by rw [← hA, mkAct_in2 _ _ _ _ rfl rfl]; exact e56
                refine step_val (v := .bool false) (w' := w') ?_ ⟨_, rfl, Ext.refl _ _, rfl⟩
                simp [execOp, h54, h56, Result.andThen, go_sem]
              case f6 =>
                intro g w' hx hd
                refine op_run rfl ?_
                have e57 : g 57 = .bool false := hd ⟨5, .data⟩ (by simp) rfl
                generalize hA : mkAct _ _ g = A
                have h57 : A.tmps[57]?.getD undef = .bool false := by rw [← hA, mkAct_in2 _ _ _ _ rfl rfl]; exact e57
                refine step_val (v := .bool false) (w' := w') ?_ ⟨_, rfl, Ext.refl _ _, rfl⟩
                simp [execOp, h57, Result.andThen, go_sem]
              case f7 =>
                intro g w' hx hd
                have eg : g 58 = .bool false := hd ⟨6, .guard⟩ (by simp) rfl
                refine op_yes rfl rfl rfl rfl eg ?_
                generalize hA : mkAct _ _ g = A
                have h10 : A.tmps[10]?.getD undef = .pointer (some ⟨r, 0, none⟩) := by rw [← hA]; exact mkAct_out2 _ _ _ _ _ rfl rfl
                obtain ⟨d0, d1, d2, d3⟩ := c0 w' hx
                refine step_val (v := .agg #[.int .i64 1, .int .i64 (1 + m), .int .i64 x, str T]) (w' := w') ?_ ⟨_, rfl, Ext.refl _ _, rfl⟩
                simp [execOp, h10, d0, d1, d2, d3, Result.andThen, go_sem]
              case f8 =>
                intro g w' hx hd
                have eg : g 58 = .bool false := hd ⟨6, .guard⟩ (by simp) rfl
                refine op_yes rfl rfl rfl rfl eg ?_
                generalize hA : mkAct _ _ g = A
                have h1 : A.tmps[1]?.getD undef = .int .i64 (1 + m) := by rw [← hA]; exact mkAct_out2 _ _ _ _ _ rfl rfl
                refine step_val (v := .int .i64 (1 + m)) (w' := w') ?_ ⟨_, rfl, Ext.refl _ _, rfl⟩
                simp [execOp, h1, Result.andThen, go_sem]
              case f9 =>
                intro g w' hx hd
                have eg : g 58 = .bool false := hd ⟨6, .guard⟩ (by simp) rfl
                refine op_yes rfl rfl rfl rfl eg ?_
                generalize hA : mkAct _ _ g = A
                have h2 : A.tmps[2]?.getD undef = .pointer (some ⟨p, 0, none⟩) := by rw [← hA]; exact mkAct_out2 _ _ _ _ _ rfl rfl
                refine step_val (v := .pointer (some ⟨p, 0, none⟩)) (w' := w') ?_ ⟨_, rfl, Ext.refl _ _, rfl⟩
                simp [execOp, h2, Result.andThen, go_sem]
              case f10 =>
                intro g w' hx hd
                have eg : g 58 = .bool false := hd ⟨6, .guard⟩ (by simp) rfl
                refine op_yes rfl rfl rfl rfl eg ?_
                have e61 : g 61 = .pointer (some ⟨p, 0, none⟩) := hd ⟨9, .data⟩ (by simp) rfl
                generalize hA : mkAct _ _ g = A
                have h61 : A.tmps[61]?.getD undef = .pointer (some ⟨p, 0, none⟩) := by rw [← hA, mkAct_in2 _ _ _ _ rfl rfl]; exact e61
                have c := c1 w' hx
                refine step_val (v := .int .i64 x) (w' := w') ?_ ⟨_, rfl, Ext.refl _ _, rfl⟩
                simp [execOp, h61, c, Result.andThen, go_sem]
              case f11 =>
                intro g w' hx hd
                have eg : g 58 = .bool false := hd ⟨6, .guard⟩ (by simp) rfl
                refine op_yes rfl rfl rfl rfl eg ?_
                generalize hA : mkAct _ _ g = A
                have h2 : A.tmps[2]?.getD undef = .pointer (some ⟨p, 0, none⟩) := by rw [← hA]; exact mkAct_out2 _ _ _ _ _ rfl rfl
                refine step_val (v := .pointer (some ⟨p, 1, none⟩)) (w' := w') ?_ ⟨_, rfl, Ext.refl _ _, rfl⟩
                simp [execOp, h2, Result.andThen, go_sem]
              case f12 =>
                intro g w' hx hd
                have eg : g 58 = .bool false := hd ⟨6, .guard⟩ (by simp) rfl
                refine op_yes rfl rfl rfl rfl eg ?_
                have e63 : g 63 = .pointer (some ⟨p, 1, none⟩) := hd ⟨11, .data⟩ (by simp) rfl
                generalize hA : mkAct _ _ g = A
                have h63 : A.tmps[63]?.getD undef = .pointer (some ⟨p, 1, none⟩) := by rw [← hA, mkAct_in2 _ _ _ _ rfl rfl]; exact e63
                have c := c2 w' hx
                refine step_val (v := .int .i64 v) (w' := w') ?_ ⟨_, rfl, Ext.refl _ _, rfl⟩
                simp [execOp, h63, c, Result.andThen, go_sem]
              case f13 =>
                intro g w' hx hd
                have eg : g 58 = .bool false := hd ⟨6, .guard⟩ (by simp) rfl
                refine op_yes rfl rfl rfl rfl eg ?_
                generalize hA : mkAct _ _ g = A
                have h2 : A.tmps[2]?.getD undef = .pointer (some ⟨p, 0, none⟩) := by rw [← hA]; exact mkAct_out2 _ _ _ _ _ rfl rfl
                refine step_val (v := .pointer (some ⟨p, 2, none⟩)) (w' := w') ?_ ⟨_, rfl, Ext.refl _ _, rfl⟩
                simp [execOp, h2, Result.andThen, go_sem]
              case f14 =>
                intro g w' hx hd
                have eg : g 58 = .bool false := hd ⟨6, .guard⟩ (by simp) rfl
                refine op_yes rfl rfl rfl rfl eg ?_
                have e65 : g 65 = .pointer (some ⟨p, 2, none⟩) := hd ⟨13, .data⟩ (by simp) rfl
                generalize hA : mkAct _ _ g = A
                have h65 : A.tmps[65]?.getD undef = .pointer (some ⟨p, 2, none⟩) := by rw [← hA, mkAct_in2 _ _ _ _ rfl rfl]; exact e65
                have c := c3 w' hx
                refine step_val (v := .int .i64 f) (w' := w') ?_ ⟨_, rfl, Ext.refl _ _, rfl⟩
                simp [execOp, h65, c, Result.andThen, go_sem]
              case f15 =>
                intro g w' hx hd
                have eg : g 58 = .bool false := hd ⟨6, .guard⟩ (by simp) rfl
                refine op_yes rfl rfl rfl rfl eg ?_
                generalize hA : mkAct _ _ g = A
                have h2 : A.tmps[2]?.getD undef = .pointer (some ⟨p, 0, none⟩) := by rw [← hA]; exact mkAct_out2 _ _ _ _ _ rfl rfl
                refine step_val (v := .pointer (some ⟨p, 3, none⟩)) (w' := w') ?_ ⟨_, rfl, Ext.refl _ _, rfl⟩
                simp [execOp, h2, Result.andThen, go_sem]
              case f16 =>
                intro g w' hx hd
                have eg : g 58 = .bool false := hd ⟨6, .guard⟩ (by simp) rfl
                refine op_yes rfl rfl rfl rfl eg ?_
                have e67 : g 67 = .pointer (some ⟨p, 3, none⟩) := hd ⟨15, .data⟩ (by simp) rfl
                generalize hA : mkAct _ _ g = A
                have h67 : A.tmps[67]?.getD undef = .pointer (some ⟨p, 3, none⟩) := by rw [← hA, mkAct_in2 _ _ _ _ rfl rfl]; exact e67
                have c := c4 w' hx
                refine step_val (v := .int .i64 bb) (w' := w') ?_ ⟨_, rfl, Ext.refl _ _, rfl⟩
                simp [execOp, h67, c, Result.andThen, go_sem]
              case f17 =>
                intro g w' hx hd
                have eg : g 58 = .bool false := hd ⟨6, .guard⟩ (by simp) rfl
                refine op_yes rfl rfl rfl rfl eg ?_
                have e64 : g 64 = .int .i64 v := hd ⟨12, .data⟩ (by simp) rfl
                have e66 : g 66 = .int .i64 f := hd ⟨14, .data⟩ (by simp) rfl
                have e68 : g 68 = .int .i64 bb := hd ⟨16, .data⟩ (by simp) rfl
                generalize hA : mkAct _ _ g = A
                have h64 : A.tmps[64]?.getD undef = .int .i64 v := by rw [← hA, mkAct_in2 _ _ _ _ rfl rfl]; exact e64
                have h66 : A.tmps[66]?.getD undef = .int .i64 f := by rw [← hA, mkAct_in2 _ _ _ _ rfl rfl]; exact e66
                have h68 : A.tmps[68]?.getD undef = .int .i64 bb := by rw [← hA, mkAct_in2 _ _ _ _ rfl rfl]; exact e68
                refine step_val (v := .slice (some ⟨w'.heap.size, 0, none⟩) 3 3) (w' := w'.alloc (.cells #[.int .i64 v, .int .i64 f, .int .i64 bb] 3)) ?_ ⟨_, rfl, (Ext.refl _ _).alloc _, ⟨w'.heap.size, rfl, Rd.litg #[.int .i64 v, .int .i64 f, .int .i64 bb] 3 1 3 rfl (by unfold maxLen; omega) rfl⟩⟩
                simp [execOp, h64, h66, h68, Result.andThen, go_sem]
              case f18 =>
                intro g w' hx hd
                have eg : g 58 = .bool false := hd ⟨6, .guard⟩ (by simp) rfl
                refine op_yes rfl rfl rfl rfl eg ?_
                obtain ⟨s, e69, hr⟩ := hd ⟨17, .data⟩ (by simp) rfl
                have e69' : g 69 = .slice (some ⟨s, 0, none⟩) 3 3 := e69
                rw [show g (slotOf _ 17) = g 69 from rfl, e69'] at hr
                generalize hA : mkAct _ _ g = A
                have h69 : A.tmps[69]?.getD undef = .slice (some ⟨s, 0, none⟩) 3 3 := by rw [← hA, mkAct_in2 _ _ _ _ rfl rfl]; exact e69'
                refine float_k (fun K hK => ?_)
                go_simp
                refine (num_any (.slice none 0 0) [] _ 3 3 [v, f, bb] w' (by omega) (by simp) (OwnB.nil _) hr (by simp [vblocks])).mono ?_
                rintro e w2 ⟨v', rfl, ho, hx2, -⟩
                rw [← HT2.out] at ho
                exact hK v' w2 hx2 ho
              case f19 =>
                intro g w' hx hd
                have eg : g 58 = .bool false := hd ⟨6, .guard⟩ (by simp) rfl
                refine op_yes rfl rfl rfl rfl eg ?_
                have ho : OwnB w' (g 70) T := hd ⟨18, .data⟩ (by simp) rfl
                have hst := ho.str
                generalize hA : mkAct _ _ g = A
                have h70 : A.tmps[70]?.getD undef = g 70 := by rw [← hA, mkAct_in2 _ _ _ _ rfl rfl]
                refine float_k (fun K hK => ?_)
                obtain ⟨v0, hv0⟩ : ∃ v, v = g 70 := ⟨_, rfl⟩
                rw [← hv0] at h70 hst
                clear hv0 ho hd
                go_simp
                exact hK (str T) w' (Ext.refl _ _) rfl
              case f20 =>
                intro g w' hx hd
                have eg : g 58 = .bool false := hd ⟨6, .guard⟩ (by simp) rfl
                refine op_yes rfl rfl rfl rfl eg ?_
                have e60 : g 60 = .int .i64 (1 + m) := hd ⟨8, .data⟩ (by simp) rfl
                have e62 : g 62 = .int .i64 x := hd ⟨10, .data⟩ (by simp) rfl
                have e71 : g 71 = str T := hd ⟨19, .data⟩ (by simp) rfl
                generalize hA : mkAct _ _ g = A
                have h60 : A.tmps[60]?.getD undef = .int .i64 (1 + m) := by rw [← hA, mkAct_in2 _ _ _ _ rfl rfl]; exact e60
                have h62 : A.tmps[62]?.getD undef = .int .i64 x := by rw [← hA, mkAct_in2 _ _ _ _ rfl rfl]; exact e62
                have h71 : A.tmps[71]?.getD undef = str T := by rw [← hA, mkAct_in2 _ _ _ _ rfl rfl]; exact e71
                refine step_val (v := .agg #[.int .i64 1, .int .i64 (1 + m), .int .i64 x, str T]) (w' := w') ?_ ⟨_, rfl, Ext.refl _ _, rfl⟩
                simp [execOp, h60, h62, h71, Result.andThen, go_sem]
              case f21 =>
                intro g w' hx hd
                have eg : g 58 = .bool false := hd ⟨6, .guard⟩ (by simp) rfl
                refine op_yes rfl rfl rfl rfl eg ?_
                have e59 : g 59 = .agg #[.int .i64 1, .int .i64 (1 + m), .int .i64 x, str T] := hd ⟨7, .data⟩ (by simp) rfl
                have e72 : g 72 = .agg #[.int .i64 1, .int .i64 (1 + m), .int .i64 x, str T] := hd ⟨20, .data⟩ (by simp) rfl
                generalize hA : mkAct _ _ g = A
                have h59 : A.tmps[59]?.getD undef = .agg #[.int .i64 1, .int .i64 (1 + m), .int .i64 x, str T] := by rw [← hA, mkAct_in2 _ _ _ _ rfl rfl]; exact e59
                have h72 : A.tmps[72]?.getD undef = .agg #[.int .i64 1, .int .i64 (1 + m), .int .i64 x, str T] := by rw [← hA, mkAct_in2 _ _ _ _ rfl rfl]; exact e72
                refine step_val (v := .bool false) (w' := w') ?_ ⟨_, rfl, Ext.refl _ _, rfl⟩
                simp [execOp, h59, h72, Result.andThen, go_sem]
              case f22 =>
                intro g w' hx hd
                refine op_run rfl ?_
                have e58 : g 58 = .bool false := hd ⟨6, .data⟩ (by simp) rfl
                have e73 : g 73 = .bool false := hd ⟨21, .data⟩ (by simp) rfl
                generalize hA : mkAct _ _ g = A
                have h58 : A.tmps[58]?.getD undef = .bool false := by rw [← hA, mkAct_in2 _ _ _ _ rfl rfl]; exact e58
                have h73 : A.tmps[73]?.getD undef = .bool false := by rw [← hA, mkAct_in2 _ _ _ _ rfl rfl]; exact e73
                refine step_val (v := .bool false) (w' := w') ?_ ⟨_, rfl, Ext.refl _ _, rfl⟩
                simp [execOp, h58, h73, Result.andThen, go_sem]
            · intro g w' hx hd
              have e74 : g 74 = .bool false := hd 22 (by decide)
              unfold mkAct
              simp only [List.zipIdx_cons, List.zipIdx_nil, List.map_cons, List.map_nil, Nat.zero_add, Nat.reduceAdd, List.contains_cons, List.contains_nil, Nat.reduceBEq, Bool.or_false, Bool.or_true, ↓reduceIte, Bool.false_eq_true]
              rw [e74]
              clear hd e74
              have hd7 := hd6.keep hx
              clear hd6 hx c0 c1 c2 c3 c4 hQ hB4
              go_wp2
              go_roundw
              case rel => exact ⟨j + 1, by omega, by go_num, hd7⟩
              case measure => simp [intOf]; omega
          · obtain rfl : j = 2 := by omega
            have hB4 := hB.keep hd.ext (by simp)
            have hxr : Ext [] w wr := hxw.then0 hd.ext
            clear hd hB hxw
            have b0 := hB4.c 0
            have b1 := hB4.c 1
            have b2 := hB4.c 2
            have b3 := hB4.c 3
            simp only [List.getElem?_cons_zero, List.getElem?_cons_succ] at b0 b1 b2 b3
            go_wp2_with fail
            refine (head_nil _).mono ?_
            rintro e w5 ⟨rfl, hx5⟩
            replace b0 := hx5.cell (by simp) b0
            replace b1 := hx5.cell (by simp) b1
            replace b2 := hx5.cell (by simp) b2
            replace b3 := hx5.cell (by simp) b3
            have cN := hput_nil h w5
            rw [HV2.out] at cN
            go_wp2_with fail
            refine cN.mono ?_
            rintro e w6 ⟨rfl, hx6⟩
            clear cN b0 b1 b2 b3
            go_wp2_with fail
            refine (scrub_nil _).mono ?_
            rintro e w7 ⟨rfl, rfl⟩
            go_wp2
            go_ret
            exact ⟨rfl, (hxr.then0 hx5).then0 hx6⟩
  · have e1 : decide h.right = false := by simpa using hr
    rw [e1] at HR
    obtain ⟨x, v, f, bb⟩ := h
    unfold Hd.val at HR ⊢
    simp only at HR ⊢
    have hxz : ∀ a c d e : Value, Ext [] w (w.alloc (.cells #[a, c, d, e] 75)) := fun a c d e => (Ext.refl _ _).alloc _
    clear e1 hr hM
    go_enter Try.func13, Try.ntmps13
    go_wp2_with fail
    refine (begin5_any _).mono ?_
    rintro e w1 ⟨rfl, hx⟩
    have hB : Blk w1 w.heap.size 75 [.int .i64 x, .int .i64 v, .int .i64 f, .int .i64 bb] := (Blk.new w 75 #[.int .i64 x, .int .i64 v, .int .i64 f, .int .i64 bb]).keep hx (by simp)
    have hxw : Ext [] w w1 := (hxz _ _ _ _).then0 hx
    clear hx hxz
    have b0 := hB.c 0
    have b1 := hB.c 1
    have b2 := hB.c 2
    have b3 := hB.c 3
    simp only [List.getElem?_cons_zero, List.getElem?_cons_succ] at b0 b1 b2 b3
    go_wp2_with fail
    refine (HR _).mono ?_
    rintro e w2 ⟨rfl, hx2⟩
    replace hxw := hxw.then0 hx2
    clear b0 b1 b2 b3 hB HR hx2
    go_wp2
    go_ret
    exact ⟨rfl, hxw⟩
end Go.Proofs.Ytpnfgkgloioddaa
