/- Layer 6's statements: Shows. (Printed by wip/gen_shows.py.) -/
import Derived.Test.YtmjgbkepngeckaaReadg
import Derived.Test.YtmjgbkepngeckaaRegInvK
import Derived.Test.YtmjgbkepngeckaaBits
namespace Go.Proofs.Ytmjgbkepngeckaa
open Go.RowKit
set_option linter.unusedVariables false
set_option linter.unusedSimpArgs false

def sh6Φ (wr : World) (wq q : Nat) (first : Int) (j : Nat) (xi xt : Int) (xd : List UInt8) (n : Nat) (y x : Value) (w : World) : Prop :=
  match n with
  | 0 => y = .pointer (some ⟨wq, 0, none⟩)
  | 1 => y = .pointer (some ⟨wq, 0, none⟩)
  | 2 => y = .pointer (some ⟨wq, 1, none⟩)
  | 3 => y = .pointer (some ⟨q, 0, none⟩)
  | 4 => y = .pointer (some ⟨wq, 0, none⟩)
  | 5 => y = .pointer (some ⟨wq, 0, none⟩)
  | 6 => y = .pointer (some ⟨wq, 2, none⟩)
  | 7 => y = .int .i64 first
  | 8 => y = .int .i64 (j)
  | 9 => y = .int .i64 (first + (j : Int))
  | 10 => y = .tuple #[.agg #[.int .i64 xi, .int .i64 xt, .string ⟨xd.toArray⟩], .int .i64 1]
  | 11 => y = .tuple #[.agg #[.int .i64 xi, .int .i64 xt, .string ⟨xd.toArray⟩], .int .i64 1]
  | 12 => y = .agg #[.int .i64 xi, .int .i64 xt, .string ⟨xd.toArray⟩]
  | 13 => y = .int .i64 1
  | 14 => IsRow wr 37 3 y w
  | 15 => ∃ G, x = .pointer (some ⟨G, 0, none⟩) ∧ Blk w G 37 [.int .i64 xi, .int .i64 xt, .string ⟨xd.toArray⟩]
  | 16 => y = .int .i64 1
  | _ => True
theorem sh6Φ_keep (wr : World) (wq q : Nat) (first : Int) (j : Nat) (xi xt : Int) (xd : List UInt8) (n : Nat) (y x : Value) (w w' : World) (h : sh6Φ wr wq q first j xi xt xd n y x w) (hx : Ext [] w w') : sh6Φ wr wq q first j xi xt xd n y x w' := by
  unfold sh6Φ at h ⊢
  split at h
  all_goals first
    | exact h
    | exact IsRow.keep h hx
    | (obtain ⟨G, h1, h2⟩ := h; exact ⟨G, h1, Blk.keep h2 hx List.not_mem_nil⟩)
theorem sh6Φ_set (wr : World) (wq q : Nat) (first : Int) (j : Nat) (xi xt : Int) (xd : List UInt8) (n : Nat) (y x : Value) (w w' : World) {G : Nat} {cs : List Value} (hn : n ≠ 15) (h : sh6Φ wr wq q first j xi xt xd n y x w) (hl : cs.length = 3) (hx : Ext [G] w w') (hb : Blk w' G 37 cs) : sh6Φ wr wq q first j xi xt xd n y x w' := by
  unfold sh6Φ at h ⊢
  split at h
  all_goals first
    | exact h
    | exact IsRow.set h hl hx hb
    | exact absurd rfl hn
def sh10Φ (wr : World) (wq q : Nat) (first : Int) (n : Nat) (y x : Value) (w : World) : Prop :=
  match n with
  | 0 => y = .pointer (some ⟨wq, 0, none⟩)
  | 1 => y = .pointer (some ⟨wq, 0, none⟩)
  | 2 => y = .pointer (some ⟨wq, 1, none⟩)
  | 3 => y = .pointer (some ⟨q, 0, none⟩)
  | 4 => y = .pointer (some ⟨wq, 0, none⟩)
  | 5 => y = .pointer (some ⟨wq, 0, none⟩)
  | 6 => y = .pointer (some ⟨wq, 2, none⟩)
  | 7 => y = .int .i64 first
  | 8 => y = .int .i64 (first - 1)
  | 9 => y = .tuple #[.agg #[.int .i64 0, .int .i64 0, .string ⟨#[]⟩], .int .i64 0]
  | 10 => y = .tuple #[.agg #[.int .i64 0, .int .i64 0, .string ⟨#[]⟩], .int .i64 0]
  | 11 => y = .agg #[.int .i64 0, .int .i64 0, .string ⟨#[]⟩]
  | 12 => y = .int .i64 0
  | 13 => IsRow wr 37 3 y w
  | 14 => ∃ G, x = .pointer (some ⟨G, 0, none⟩) ∧ Blk w G 37 [.int .i64 0, .int .i64 0, .string ⟨#[]⟩]
  | 15 => y = .int .i64 0
  | _ => True
theorem sh10Φ_keep (wr : World) (wq q : Nat) (first : Int) (n : Nat) (y x : Value) (w w' : World) (h : sh10Φ wr wq q first n y x w) (hx : Ext [] w w') : sh10Φ wr wq q first n y x w' := by
  unfold sh10Φ at h ⊢
  split at h
  all_goals first
    | exact h
    | exact IsRow.keep h hx
    | (obtain ⟨G, h1, h2⟩ := h; exact ⟨G, h1, Blk.keep h2 hx List.not_mem_nil⟩)
theorem sh10Φ_set (wr : World) (wq q : Nat) (first : Int) (n : Nat) (y x : Value) (w w' : World) {G : Nat} {cs : List Value} (hn : n ≠ 14) (h : sh10Φ wr wq q first n y x w) (hl : cs.length = 3) (hx : Ext [G] w w') (hb : Blk w' G 37 cs) : sh10Φ wr wq q first n y x w' := by
  unfold sh10Φ at h ⊢
  split at h
  all_goals first
    | exact h
    | exact IsRow.set h hl hx hb
    | exact absurd rfl hn
def sh11Φ (wr : World) (wq q : Nat) (first : Int) (a : Option Addr) (len cap : Nat) (n : Nat) (y x : Value) (w : World) : Prop :=
  match n with
  | 0 => y = .pointer (some ⟨wq, 0, none⟩)
  | 1 => y = .pointer (some ⟨wq, 0, none⟩)
  | 2 => y = .pointer (some ⟨wq, 1, none⟩)
  | 3 => y = .pointer (some ⟨q, 0, none⟩)
  | 4 => y = .pointer (some ⟨wq, 0, none⟩)
  | 5 => y = .pointer (some ⟨wq, 0, none⟩)
  | 6 => y = .pointer (some ⟨wq, 2, none⟩)
  | 7 => y = .int .i64 first
  | 8 => y = .pointer (some ⟨wq, 0, none⟩)
  | 9 => y = .pointer (some ⟨wq, 0, none⟩)
  | 10 => y = .pointer (some ⟨wq, 3, none⟩)
  | 11 => y = .slice a len cap
  | 12 => y = .int .i64 (len)
  | 13 => y = .int .i64 (first + (len : Int))
  | 14 => y = .tuple #[.agg #[.int .i64 0, .int .i64 0, .string ⟨#[]⟩], .int .i64 0]
  | 15 => y = .tuple #[.agg #[.int .i64 0, .int .i64 0, .string ⟨#[]⟩], .int .i64 0]
  | 16 => y = .agg #[.int .i64 0, .int .i64 0, .string ⟨#[]⟩]
  | 17 => y = .int .i64 0
  | 18 => IsRow wr 37 3 y w
  | 19 => ∃ G, x = .pointer (some ⟨G, 0, none⟩) ∧ Blk w G 37 [.int .i64 0, .int .i64 0, .string ⟨#[]⟩]
  | 20 => y = .int .i64 0
  | _ => True
theorem sh11Φ_keep (wr : World) (wq q : Nat) (first : Int) (a : Option Addr) (len cap : Nat) (n : Nat) (y x : Value) (w w' : World) (h : sh11Φ wr wq q first a len cap n y x w) (hx : Ext [] w w') : sh11Φ wr wq q first a len cap n y x w' := by
  unfold sh11Φ at h ⊢
  split at h
  all_goals first
    | exact h
    | exact IsRow.keep h hx
    | (obtain ⟨G, h1, h2⟩ := h; exact ⟨G, h1, Blk.keep h2 hx List.not_mem_nil⟩)
theorem sh11Φ_set (wr : World) (wq q : Nat) (first : Int) (a : Option Addr) (len cap : Nat) (n : Nat) (y x : Value) (w w' : World) {G : Nat} {cs : List Value} (hn : n ≠ 19) (h : sh11Φ wr wq q first a len cap n y x w) (hl : cs.length = 3) (hx : Ext [G] w w') (hb : Blk w' G 37 cs) : sh11Φ wr wq q first a len cap n y x w' := by
  unfold sh11Φ at h ⊢
  split at h
  all_goals first
    | exact h
    | exact IsRow.set h hl hx hb
    | exact absurd rfl hn
theorem row3 {w : World} {G : Nat} {t : TypeId} {x y z : Value} (h : Blk w G t [x, y, z]) : w.cell? ⟨G, 0, none⟩ = some x ∧ w.cell? ⟨G, 1, none⟩ = some y ∧ w.cell? ⟨G, 2, none⟩ = some z := ⟨Blk.c h 0, Blk.c h 1, Blk.c h 2⟩
set_option maxRecDepth 100000 in
set_option maxHeartbeats 12800000 in
theorem shows_c {w0 w : World} {wq b q : Nat} {first : Int} {vm : Value} {all : List Ent} {O : List Nat} {a : Option Addr} {len cap : Nat} (h : St w0 w wq b q first (.slice a len cap) vm all O) (hR : Rd w 3 (.slice a len cap) len (all.flatMap Ent.cells)) :
    Calls Try.prog 23 #[.pointer (some ⟨wq, 0, none⟩)] w fun e w' => e = .returned (.bool true) ∧ Ext [] w w' := by
  have hlen : all.length = len := by have := hR.len.2.2.2; rw [flatMap_len _ 3 ecells_len] at this; omega
  have h8 := h.len
  obtain ⟨f1, f2⟩ := h.first_rng
  have HS := Hid.of h
  have HR := Hid.of hR
  have HL := Hid.of hlen
  have hl8 : len ≤ 8 := by omega
  clear h hR h8 hlen
  go_enter Try.func23, Try.ntmps23
  go_upto_region 1 with fail
  have c1 := fun w' (hx : Ext [] w w') => Blk.c (HS.out.keep hx).blk 1
  have c2 := fun w' (hx : Ext [] w w') => Blk.c (HS.out.keep hx).blk 2
  have c3 := fun w' (hx : Ext [] w w') => Blk.c (HS.out.keep hx).blk 3
  simp only [List.getElem?_cons_zero, List.getElem?_cons_succ] at c1 c2 c3
  have kF := fun w' (hx : Ext [] w w') => (HS.out.keep hx).first_c
  have kL := fun w' (hx : Ext [] w w') => (HS.out.keep hx).last_c
  have kR := fun w' (hx : Ext [] w w') => (HS.out.keep hx).room_c
  have kH := fun w' (hx : Ext [] w w') => (HS.out.keep hx).hurt_c
  rw [HL.out] at kL kR
  refine wp_region_stepsg [11, 12, 13, 14, 15, 16, 17, 18, 19, 20, 21, 22, 23, 24, 25, 26, 27, 28, 29, 30, 31, 32, 33, 34, 35, 36, 37, 38, 39, 40, 41, 42, 43, 44, 45, 46, 47, 48, 49, 50, 51, 52, 53, 54, 55, 56, 57, 58, 59, 60, 61] (fun n y _ => match n with | 0 => y = .pointer (some ⟨wq, 0, none⟩) | 1 => y = .pointer (some ⟨wq, 0, none⟩) | 2 => y = .pointer (some ⟨wq, 1, none⟩) | 3 => y = .pointer (some ⟨q, 0, none⟩) | 4 => y = .int .i64 first | 5 => y = .pointer (some ⟨wq, 0, none⟩) | 6 => y = .pointer (some ⟨wq, 0, none⟩) | 7 => y = .pointer (some ⟨wq, 2, none⟩) | 8 => y = .int .i64 first | 9 => y = .bool false | 10 => y = .bool false | 11 => y = .pointer (some ⟨wq, 0, none⟩) | 12 => y = .pointer (some ⟨wq, 0, none⟩) | 13 => y = .pointer (some ⟨wq, 1, none⟩) | 14 => y = .pointer (some ⟨q, 0, none⟩) | 15 => y = .int .i64 (first + (len : Int) - 1) | 16 => y = .pointer (some ⟨wq, 0, none⟩) | 17 => y = .pointer (some ⟨wq, 0, none⟩) | 18 => y = .pointer (some ⟨wq, 2, none⟩) | 19 => y = .int .i64 first | 20 => y = .pointer (some ⟨wq, 0, none⟩) | 21 => y = .pointer (some ⟨wq, 0, none⟩) | 22 => y = .pointer (some ⟨wq, 3, none⟩) | 23 => y = .slice a len cap | 24 => y = .int .i64 (len) | 25 => y = .int .i64 (first + (len : Int)) | 26 => y = .int .i64 (first + (len : Int) - 1) | 27 => y = .bool false | 28 => y = .bool false | 29 => y = .bool false | 30 => y = .pointer (some ⟨wq, 0, none⟩) | 31 => y = .pointer (some ⟨wq, 0, none⟩) | 32 => y = .pointer (some ⟨wq, 1, none⟩) | 33 => y = .pointer (some ⟨q, 0, none⟩) | 34 => y = .int .i64 (8 - (len : Int)) | 35 => y = .pointer (some ⟨wq, 0, none⟩) | 36 => y = .pointer (some ⟨wq, 0, none⟩) | 37 => y = .pointer (some ⟨wq, 3, none⟩) | 38 => y = .slice a len cap | 39 => y = .int .i64 (len) | 40 => y = .int .i64 (8 - (len : Int)) | 41 => y = .bool false | 42 => y = .bool false | 43 => y = .bool false | 44 => y = .pointer (some ⟨wq, 0, none⟩) | 45 => y = .pointer (some ⟨wq, 0, none⟩) | 46 => y = .pointer (some ⟨wq, 1, none⟩) | 47 => y = .pointer (some ⟨q, 0, none⟩) | 48 => y = .int .i64 0 | 49 => y = .bool false | 50 => y = .bool false | _ => True) (by kernel_rfl) (by kernel_rfl) (fun n y w1 w2 h hx => h) ?_ ?_
  · refine ⟨?f0_1, ?f1_1, ?f2_1, ?f3_1, ?f4_1, ?f5_1, ?f6_1, ?f7_1, ?f8_1, ?f9_1, ?f10_1, ?f11_1, ?f12_1, ?f13_1, ?f14_1, ?f15_1, ?f16_1, ?f17_1, ?f18_1, ?f19_1, ?f20_1, ?f21_1, ?f22_1, ?f23_1, ?f24_1, ?f25_1, ?f26_1, ?f27_1, ?f28_1, ?f29_1, ?f30_1, ?f31_1, ?f32_1, ?f33_1, ?f34_1, ?f35_1, ?f36_1, ?f37_1, ?f38_1, ?f39_1, ?f40_1, ?f41_1, ?f42_1, ?f43_1, ?f44_1, ?f45_1, ?f46_1, ?f47_1, ?f48_1, ?f49_1, ?f50_1, trivial⟩
    case f0_1 =>
      intro g w' hx hd
      refine op_run rfl ?_
      generalize hA : mkAct _ _ g = A
      have h0 : A.tmps[0]?.getD undef = .pointer (some ⟨wq, 0, none⟩) := by rw [← hA]; exact mkAct_out2 _ _ _ _ _ rfl rfl
      refine step_val (v := .pointer (some ⟨wq, 0, none⟩)) (w' := w') ?_ ⟨_, rfl, Ext.refl _ _, rfl⟩
      simp [execOp, h0, Result.andThen, go_sem]
    case f1_1 =>
      intro g w' hx hd
      refine op_run rfl ?_
      have e11 : g 11 = .pointer (some ⟨wq, 0, none⟩) := hd ⟨0, .data⟩ (by simp) rfl
      generalize hA : mkAct _ _ g = A
      have h11 : A.tmps[11]?.getD undef = .pointer (some ⟨wq, 0, none⟩) := by rw [← hA, mkAct_in2 _ _ _ _ rfl rfl]; exact e11
      refine step_val (v := .pointer (some ⟨wq, 0, none⟩)) (w' := w') ?_ ⟨_, rfl, Ext.refl _ _, rfl⟩
      simp [execOp, h11, Result.andThen, go_sem]
    case f2_1 =>
      intro g w' hx hd
      refine op_run rfl ?_
      have e12 : g 12 = .pointer (some ⟨wq, 0, none⟩) := hd ⟨1, .data⟩ (by simp) rfl
      generalize hA : mkAct _ _ g = A
      have h12 : A.tmps[12]?.getD undef = .pointer (some ⟨wq, 0, none⟩) := by rw [← hA, mkAct_in2 _ _ _ _ rfl rfl]; exact e12
      refine step_val (v := .pointer (some ⟨wq, 1, none⟩)) (w' := w') ?_ ⟨_, rfl, Ext.refl _ _, rfl⟩
      simp [execOp, h12, Result.andThen, go_sem]
    case f3_1 =>
      intro g w' hx hd
      refine op_run rfl ?_
      have e13 : g 13 = .pointer (some ⟨wq, 1, none⟩) := hd ⟨2, .data⟩ (by simp) rfl
      generalize hA : mkAct _ _ g = A
      have h13 : A.tmps[13]?.getD undef = .pointer (some ⟨wq, 1, none⟩) := by rw [← hA, mkAct_in2 _ _ _ _ rfl rfl]; exact e13
      have c := c1 w' hx
      refine step_val (v := .pointer (some ⟨q, 0, none⟩)) (w' := w') ?_ ⟨_, rfl, Ext.refl _ _, rfl⟩
      simp [execOp, h13, c, Result.andThen, go_sem]
    case f4_1 =>
      intro g w' hx hd
      refine op_run rfl ?_
      have e14 : g 14 = .pointer (some ⟨q, 0, none⟩) := hd ⟨3, .data⟩ (by simp) rfl
      generalize hA : mkAct _ _ g = A
      have h14 : A.tmps[14]?.getD undef = .pointer (some ⟨q, 0, none⟩) := by rw [← hA, mkAct_in2 _ _ _ _ rfl rfl]; exact e14
      refine float_k (fun K hK => ?_)
      go_simp
      refine (kF w' hx).mono ?_
      rintro e w2 ⟨rfl, hx2⟩
      exact hK (.int .i64 first) w2 hx2 rfl
    case f5_1 =>
      intro g w' hx hd
      refine op_run rfl ?_
      generalize hA : mkAct _ _ g = A
      have h0 : A.tmps[0]?.getD undef = .pointer (some ⟨wq, 0, none⟩) := by rw [← hA]; exact mkAct_out2 _ _ _ _ _ rfl rfl
      refine step_val (v := .pointer (some ⟨wq, 0, none⟩)) (w' := w') ?_ ⟨_, rfl, Ext.refl _ _, rfl⟩
      simp [execOp, h0, Result.andThen, go_sem]
    case f6_1 =>
      intro g w' hx hd
      refine op_run rfl ?_
      have e16 : g 16 = .pointer (some ⟨wq, 0, none⟩) := hd ⟨5, .data⟩ (by simp) rfl
      generalize hA : mkAct _ _ g = A
      have h16 : A.tmps[16]?.getD undef = .pointer (some ⟨wq, 0, none⟩) := by rw [← hA, mkAct_in2 _ _ _ _ rfl rfl]; exact e16
      refine step_val (v := .pointer (some ⟨wq, 0, none⟩)) (w' := w') ?_ ⟨_, rfl, Ext.refl _ _, rfl⟩
      simp [execOp, h16, Result.andThen, go_sem]
    case f7_1 =>
      intro g w' hx hd
      refine op_run rfl ?_
      have e17 : g 17 = .pointer (some ⟨wq, 0, none⟩) := hd ⟨6, .data⟩ (by simp) rfl
      generalize hA : mkAct _ _ g = A
      have h17 : A.tmps[17]?.getD undef = .pointer (some ⟨wq, 0, none⟩) := by rw [← hA, mkAct_in2 _ _ _ _ rfl rfl]; exact e17
      refine step_val (v := .pointer (some ⟨wq, 2, none⟩)) (w' := w') ?_ ⟨_, rfl, Ext.refl _ _, rfl⟩
      simp [execOp, h17, Result.andThen, go_sem]
    case f8_1 =>
      intro g w' hx hd
      refine op_run rfl ?_
      have e18 : g 18 = .pointer (some ⟨wq, 2, none⟩) := hd ⟨7, .data⟩ (by simp) rfl
      generalize hA : mkAct _ _ g = A
      have h18 : A.tmps[18]?.getD undef = .pointer (some ⟨wq, 2, none⟩) := by rw [← hA, mkAct_in2 _ _ _ _ rfl rfl]; exact e18
      have c := c2 w' hx
      refine step_val (v := .int .i64 first) (w' := w') ?_ ⟨_, rfl, Ext.refl _ _, rfl⟩
      simp [execOp, h18, c, Result.andThen, go_sem]
    case f9_1 =>
      intro g w' hx hd
      refine op_run rfl ?_
      have e15 : g 15 = .int .i64 first := hd ⟨4, .data⟩ (by simp) rfl
      have e19 : g 19 = .int .i64 first := hd ⟨8, .data⟩ (by simp) rfl
      generalize hA : mkAct _ _ g = A
      have h15 : A.tmps[15]?.getD undef = .int .i64 first := by rw [← hA, mkAct_in2 _ _ _ _ rfl rfl]; exact e15
      have h19 : A.tmps[19]?.getD undef = .int .i64 first := by rw [← hA, mkAct_in2 _ _ _ _ rfl rfl]; exact e19
      refine step_val (v := .bool false) (w' := w') ?_ ⟨_, rfl, Ext.refl _ _, rfl⟩
      simp [execOp, h15, h19, Result.andThen, go_sem]
    case f10_1 =>
      intro g w' hx hd
      refine op_run rfl ?_
      have e20 : g 20 = .bool false := hd ⟨9, .data⟩ (by simp) rfl
      generalize hA : mkAct _ _ g = A
      have h20 : A.tmps[20]?.getD undef = .bool false := by rw [← hA, mkAct_in2 _ _ _ _ rfl rfl]; exact e20
      refine step_val (v := .bool false) (w' := w') ?_ ⟨_, rfl, Ext.refl _ _, rfl⟩
      simp [execOp, h20, Result.andThen, go_sem]
    case f11_1 =>
      intro g w' hx hd
      have eg : g 21 = .bool false := hd ⟨10, .guard⟩ (by simp) rfl
      refine op_yes rfl rfl rfl rfl eg ?_
      generalize hA : mkAct _ _ g = A
      have h0 : A.tmps[0]?.getD undef = .pointer (some ⟨wq, 0, none⟩) := by rw [← hA]; exact mkAct_out2 _ _ _ _ _ rfl rfl
      refine step_val (v := .pointer (some ⟨wq, 0, none⟩)) (w' := w') ?_ ⟨_, rfl, Ext.refl _ _, rfl⟩
      simp [execOp, h0, Result.andThen, go_sem]
    case f12_1 =>
      intro g w' hx hd
      have eg : g 21 = .bool false := hd ⟨10, .guard⟩ (by simp) rfl
      refine op_yes rfl rfl rfl rfl eg ?_
      have e22 : g 22 = .pointer (some ⟨wq, 0, none⟩) := hd ⟨11, .data⟩ (by simp) rfl
      generalize hA : mkAct _ _ g = A
      have h22 : A.tmps[22]?.getD undef = .pointer (some ⟨wq, 0, none⟩) := by rw [← hA, mkAct_in2 _ _ _ _ rfl rfl]; exact e22
      refine step_val (v := .pointer (some ⟨wq, 0, none⟩)) (w' := w') ?_ ⟨_, rfl, Ext.refl _ _, rfl⟩
      simp [execOp, h22, Result.andThen, go_sem]
    case f13_1 =>
      intro g w' hx hd
      have eg : g 21 = .bool false := hd ⟨10, .guard⟩ (by simp) rfl
      refine op_yes rfl rfl rfl rfl eg ?_
      have e23 : g 23 = .pointer (some ⟨wq, 0, none⟩) := hd ⟨12, .data⟩ (by simp) rfl
      generalize hA : mkAct _ _ g = A
      have h23 : A.tmps[23]?.getD undef = .pointer (some ⟨wq, 0, none⟩) := by rw [← hA, mkAct_in2 _ _ _ _ rfl rfl]; exact e23
      refine step_val (v := .pointer (some ⟨wq, 1, none⟩)) (w' := w') ?_ ⟨_, rfl, Ext.refl _ _, rfl⟩
      simp [execOp, h23, Result.andThen, go_sem]
    case f14_1 =>
      intro g w' hx hd
      have eg : g 21 = .bool false := hd ⟨10, .guard⟩ (by simp) rfl
      refine op_yes rfl rfl rfl rfl eg ?_
      have e24 : g 24 = .pointer (some ⟨wq, 1, none⟩) := hd ⟨13, .data⟩ (by simp) rfl
      generalize hA : mkAct _ _ g = A
      have h24 : A.tmps[24]?.getD undef = .pointer (some ⟨wq, 1, none⟩) := by rw [← hA, mkAct_in2 _ _ _ _ rfl rfl]; exact e24
      have c := c1 w' hx
      refine step_val (v := .pointer (some ⟨q, 0, none⟩)) (w' := w') ?_ ⟨_, rfl, Ext.refl _ _, rfl⟩
      simp [execOp, h24, c, Result.andThen, go_sem]
    case f15_1 =>
      intro g w' hx hd
      have eg : g 21 = .bool false := hd ⟨10, .guard⟩ (by simp) rfl
      refine op_yes rfl rfl rfl rfl eg ?_
      have e25 : g 25 = .pointer (some ⟨q, 0, none⟩) := hd ⟨14, .data⟩ (by simp) rfl
      generalize hA : mkAct _ _ g = A
      have h25 : A.tmps[25]?.getD undef = .pointer (some ⟨q, 0, none⟩) := by rw [← hA, mkAct_in2 _ _ _ _ rfl rfl]; exact e25
      refine float_k (fun K hK => ?_)
      go_simp
      refine (kL w' hx).mono ?_
      rintro e w2 ⟨rfl, hx2⟩
      exact hK (.int .i64 (first + (len : Int) - 1)) w2 hx2 rfl
    case f16_1 =>
      intro g w' hx hd
      have eg : g 21 = .bool false := hd ⟨10, .guard⟩ (by simp) rfl
      refine op_yes rfl rfl rfl rfl eg ?_
      generalize hA : mkAct _ _ g = A
      have h0 : A.tmps[0]?.getD undef = .pointer (some ⟨wq, 0, none⟩) := by rw [← hA]; exact mkAct_out2 _ _ _ _ _ rfl rfl
      refine step_val (v := .pointer (some ⟨wq, 0, none⟩)) (w' := w') ?_ ⟨_, rfl, Ext.refl _ _, rfl⟩
      simp [execOp, h0, Result.andThen, go_sem]
    case f17_1 =>
      intro g w' hx hd
      have eg : g 21 = .bool false := hd ⟨10, .guard⟩ (by simp) rfl
      refine op_yes rfl rfl rfl rfl eg ?_
      have e27 : g 27 = .pointer (some ⟨wq, 0, none⟩) := hd ⟨16, .data⟩ (by simp) rfl
      generalize hA : mkAct _ _ g = A
      have h27 : A.tmps[27]?.getD undef = .pointer (some ⟨wq, 0, none⟩) := by rw [← hA, mkAct_in2 _ _ _ _ rfl rfl]; exact e27
      refine step_val (v := .pointer (some ⟨wq, 0, none⟩)) (w' := w') ?_ ⟨_, rfl, Ext.refl _ _, rfl⟩
      simp [execOp, h27, Result.andThen, go_sem]
    case f18_1 =>
      intro g w' hx hd
      have eg : g 21 = .bool false := hd ⟨10, .guard⟩ (by simp) rfl
      refine op_yes rfl rfl rfl rfl eg ?_
      have e28 : g 28 = .pointer (some ⟨wq, 0, none⟩) := hd ⟨17, .data⟩ (by simp) rfl
      generalize hA : mkAct _ _ g = A
      have h28 : A.tmps[28]?.getD undef = .pointer (some ⟨wq, 0, none⟩) := by rw [← hA, mkAct_in2 _ _ _ _ rfl rfl]; exact e28
      refine step_val (v := .pointer (some ⟨wq, 2, none⟩)) (w' := w') ?_ ⟨_, rfl, Ext.refl _ _, rfl⟩
      simp [execOp, h28, Result.andThen, go_sem]
    case f19_1 =>
      intro g w' hx hd
      have eg : g 21 = .bool false := hd ⟨10, .guard⟩ (by simp) rfl
      refine op_yes rfl rfl rfl rfl eg ?_
      have e29 : g 29 = .pointer (some ⟨wq, 2, none⟩) := hd ⟨18, .data⟩ (by simp) rfl
      generalize hA : mkAct _ _ g = A
      have h29 : A.tmps[29]?.getD undef = .pointer (some ⟨wq, 2, none⟩) := by rw [← hA, mkAct_in2 _ _ _ _ rfl rfl]; exact e29
      have c := c2 w' hx
      refine step_val (v := .int .i64 first) (w' := w') ?_ ⟨_, rfl, Ext.refl _ _, rfl⟩
      simp [execOp, h29, c, Result.andThen, go_sem]
    case f20_1 =>
      intro g w' hx hd
      have eg : g 21 = .bool false := hd ⟨10, .guard⟩ (by simp) rfl
      refine op_yes rfl rfl rfl rfl eg ?_
      generalize hA : mkAct _ _ g = A
      have h0 : A.tmps[0]?.getD undef = .pointer (some ⟨wq, 0, none⟩) := by rw [← hA]; exact mkAct_out2 _ _ _ _ _ rfl rfl
      refine step_val (v := .pointer (some ⟨wq, 0, none⟩)) (w' := w') ?_ ⟨_, rfl, Ext.refl _ _, rfl⟩
      simp [execOp, h0, Result.andThen, go_sem]
    case f21_1 =>
      intro g w' hx hd
      have eg : g 21 = .bool false := hd ⟨10, .guard⟩ (by simp) rfl
      refine op_yes rfl rfl rfl rfl eg ?_
      have e31 : g 31 = .pointer (some ⟨wq, 0, none⟩) := hd ⟨20, .data⟩ (by simp) rfl
      generalize hA : mkAct _ _ g = A
      have h31 : A.tmps[31]?.getD undef = .pointer (some ⟨wq, 0, none⟩) := by rw [← hA, mkAct_in2 _ _ _ _ rfl rfl]; exact e31
      refine step_val (v := .pointer (some ⟨wq, 0, none⟩)) (w' := w') ?_ ⟨_, rfl, Ext.refl _ _, rfl⟩
      simp [execOp, h31, Result.andThen, go_sem]
    case f22_1 =>
      intro g w' hx hd
      have eg : g 21 = .bool false := hd ⟨10, .guard⟩ (by simp) rfl
      refine op_yes rfl rfl rfl rfl eg ?_
      have e32 : g 32 = .pointer (some ⟨wq, 0, none⟩) := hd ⟨21, .data⟩ (by simp) rfl
      generalize hA : mkAct _ _ g = A
      have h32 : A.tmps[32]?.getD undef = .pointer (some ⟨wq, 0, none⟩) := by rw [← hA, mkAct_in2 _ _ _ _ rfl rfl]; exact e32
      refine step_val (v := .pointer (some ⟨wq, 3, none⟩)) (w' := w') ?_ ⟨_, rfl, Ext.refl _ _, rfl⟩
      simp [execOp, h32, Result.andThen, go_sem]
    case f23_1 =>
      intro g w' hx hd
      have eg : g 21 = .bool false := hd ⟨10, .guard⟩ (by simp) rfl
      refine op_yes rfl rfl rfl rfl eg ?_
      have e33 : g 33 = .pointer (some ⟨wq, 3, none⟩) := hd ⟨22, .data⟩ (by simp) rfl
      generalize hA : mkAct _ _ g = A
      have h33 : A.tmps[33]?.getD undef = .pointer (some ⟨wq, 3, none⟩) := by rw [← hA, mkAct_in2 _ _ _ _ rfl rfl]; exact e33
      have c := c3 w' hx
      refine step_val (v := .slice a len cap) (w' := w') ?_ ⟨_, rfl, Ext.refl _ _, rfl⟩
      simp [execOp, h33, c, Result.andThen, go_sem]
    case f24_1 =>
      intro g w' hx hd
      have eg : g 21 = .bool false := hd ⟨10, .guard⟩ (by simp) rfl
      refine op_yes rfl rfl rfl rfl eg ?_
      have e34 : g 34 = .slice a len cap := hd ⟨23, .data⟩ (by simp) rfl
      generalize hA : mkAct _ _ g = A
      have h34 : A.tmps[34]?.getD undef = .slice a len cap := by rw [← hA, mkAct_in2 _ _ _ _ rfl rfl]; exact e34
      refine step_val (v := .int .i64 (len)) (w' := w') ?_ ⟨_, rfl, Ext.refl _ _, rfl⟩
      simp [execOp, h34, Result.andThen, go_sem]
    case f25_1 =>
      intro g w' hx hd
      have eg : g 21 = .bool false := hd ⟨10, .guard⟩ (by simp) rfl
      refine op_yes rfl rfl rfl rfl eg ?_
      have e30 : g 30 = .int .i64 first := hd ⟨19, .data⟩ (by simp) rfl
      have e35 : g 35 = .int .i64 (len) := hd ⟨24, .data⟩ (by simp) rfl
      generalize hA : mkAct _ _ g = A
      have h30 : A.tmps[30]?.getD undef = .int .i64 first := by rw [← hA, mkAct_in2 _ _ _ _ rfl rfl]; exact e30
      have h35 : A.tmps[35]?.getD undef = .int .i64 (len) := by rw [← hA, mkAct_in2 _ _ _ _ rfl rfl]; exact e35
      refine step_val (v := .int .i64 (first + (len : Int))) (w' := w') ?_ ⟨_, rfl, Ext.refl _ _, rfl⟩
      simp [execOp, h30, h35, Result.andThen, go_sem]
      exact IntWalk.i64_in _ ⟨by omega, by omega⟩
    case f26_1 =>
      intro g w' hx hd
      have eg : g 21 = .bool false := hd ⟨10, .guard⟩ (by simp) rfl
      refine op_yes rfl rfl rfl rfl eg ?_
      have e36 : g 36 = .int .i64 (first + (len : Int)) := hd ⟨25, .data⟩ (by simp) rfl
      generalize hA : mkAct _ _ g = A
      have h36 : A.tmps[36]?.getD undef = .int .i64 (first + (len : Int)) := by rw [← hA, mkAct_in2 _ _ _ _ rfl rfl]; exact e36
      refine step_val (v := .int .i64 (first + (len : Int) - 1)) (w' := w') ?_ ⟨_, rfl, Ext.refl _ _, rfl⟩
      simp [execOp, h36, Result.andThen, go_sem]
      exact IntWalk.i64_in _ ⟨by omega, by omega⟩
    case f27_1 =>
      intro g w' hx hd
      have eg : g 21 = .bool false := hd ⟨10, .guard⟩ (by simp) rfl
      refine op_yes rfl rfl rfl rfl eg ?_
      have e26 : g 26 = .int .i64 (first + (len : Int) - 1) := hd ⟨15, .data⟩ (by simp) rfl
      have e37 : g 37 = .int .i64 (first + (len : Int) - 1) := hd ⟨26, .data⟩ (by simp) rfl
      generalize hA : mkAct _ _ g = A
      have h26 : A.tmps[26]?.getD undef = .int .i64 (first + (len : Int) - 1) := by rw [← hA, mkAct_in2 _ _ _ _ rfl rfl]; exact e26
      have h37 : A.tmps[37]?.getD undef = .int .i64 (first + (len : Int) - 1) := by rw [← hA, mkAct_in2 _ _ _ _ rfl rfl]; exact e37
      refine step_val (v := .bool false) (w' := w') ?_ ⟨_, rfl, Ext.refl _ _, rfl⟩
      simp [execOp, h26, h37, Result.andThen, go_sem]
    case f28_1 =>
      intro g w' hx hd
      refine op_run rfl ?_
      have e21 : g 21 = .bool false := hd ⟨10, .data⟩ (by simp) rfl
      have e38 : g 38 = .bool false := hd ⟨27, .data⟩ (by simp) rfl
      generalize hA : mkAct _ _ g = A
      have h21 : A.tmps[21]?.getD undef = .bool false := by rw [← hA, mkAct_in2 _ _ _ _ rfl rfl]; exact e21
      have h38 : A.tmps[38]?.getD undef = .bool false := by rw [← hA, mkAct_in2 _ _ _ _ rfl rfl]; exact e38
      refine step_val (v := .bool false) (w' := w') ?_ ⟨_, rfl, Ext.refl _ _, rfl⟩
      simp [execOp, h21, h38, Result.andThen, go_sem]
    case f29_1 =>
      intro g w' hx hd
      refine op_run rfl ?_
      have e39 : g 39 = .bool false := hd ⟨28, .data⟩ (by simp) rfl
      generalize hA : mkAct _ _ g = A
      have h39 : A.tmps[39]?.getD undef = .bool false := by rw [← hA, mkAct_in2 _ _ _ _ rfl rfl]; exact e39
      refine step_val (v := .bool false) (w' := w') ?_ ⟨_, rfl, Ext.refl _ _, rfl⟩
      simp [execOp, h39, Result.andThen, go_sem]
    case f30_1 =>
      intro g w' hx hd
      have eg : g 40 = .bool false := hd ⟨29, .guard⟩ (by simp) rfl
      refine op_yes rfl rfl rfl rfl eg ?_
      generalize hA : mkAct _ _ g = A
      have h0 : A.tmps[0]?.getD undef = .pointer (some ⟨wq, 0, none⟩) := by rw [← hA]; exact mkAct_out2 _ _ _ _ _ rfl rfl
      refine step_val (v := .pointer (some ⟨wq, 0, none⟩)) (w' := w') ?_ ⟨_, rfl, Ext.refl _ _, rfl⟩
      simp [execOp, h0, Result.andThen, go_sem]
    case f31_1 =>
      intro g w' hx hd
      have eg : g 40 = .bool false := hd ⟨29, .guard⟩ (by simp) rfl
      refine op_yes rfl rfl rfl rfl eg ?_
      have e41 : g 41 = .pointer (some ⟨wq, 0, none⟩) := hd ⟨30, .data⟩ (by simp) rfl
      generalize hA : mkAct _ _ g = A
      have h41 : A.tmps[41]?.getD undef = .pointer (some ⟨wq, 0, none⟩) := by rw [← hA, mkAct_in2 _ _ _ _ rfl rfl]; exact e41
      refine step_val (v := .pointer (some ⟨wq, 0, none⟩)) (w' := w') ?_ ⟨_, rfl, Ext.refl _ _, rfl⟩
      simp [execOp, h41, Result.andThen, go_sem]
    case f32_1 =>
      intro g w' hx hd
      have eg : g 40 = .bool false := hd ⟨29, .guard⟩ (by simp) rfl
      refine op_yes rfl rfl rfl rfl eg ?_
      have e42 : g 42 = .pointer (some ⟨wq, 0, none⟩) := hd ⟨31, .data⟩ (by simp) rfl
      generalize hA : mkAct _ _ g = A
      have h42 : A.tmps[42]?.getD undef = .pointer (some ⟨wq, 0, none⟩) := by rw [← hA, mkAct_in2 _ _ _ _ rfl rfl]; exact e42
      refine step_val (v := .pointer (some ⟨wq, 1, none⟩)) (w' := w') ?_ ⟨_, rfl, Ext.refl _ _, rfl⟩
      simp [execOp, h42, Result.andThen, go_sem]
    case f33_1 =>
      intro g w' hx hd
      have eg : g 40 = .bool false := hd ⟨29, .guard⟩ (by simp) rfl
      refine op_yes rfl rfl rfl rfl eg ?_
      have e43 : g 43 = .pointer (some ⟨wq, 1, none⟩) := hd ⟨32, .data⟩ (by simp) rfl
      generalize hA : mkAct _ _ g = A
      have h43 : A.tmps[43]?.getD undef = .pointer (some ⟨wq, 1, none⟩) := by rw [← hA, mkAct_in2 _ _ _ _ rfl rfl]; exact e43
      have c := c1 w' hx
      refine step_val (v := .pointer (some ⟨q, 0, none⟩)) (w' := w') ?_ ⟨_, rfl, Ext.refl _ _, rfl⟩
      simp [execOp, h43, c, Result.andThen, go_sem]
    case f34_1 =>
      intro g w' hx hd
      have eg : g 40 = .bool false := hd ⟨29, .guard⟩ (by simp) rfl
      refine op_yes rfl rfl rfl rfl eg ?_
      have e44 : g 44 = .pointer (some ⟨q, 0, none⟩) := hd ⟨33, .data⟩ (by simp) rfl
      generalize hA : mkAct _ _ g = A
      have h44 : A.tmps[44]?.getD undef = .pointer (some ⟨q, 0, none⟩) := by rw [← hA, mkAct_in2 _ _ _ _ rfl rfl]; exact e44
      refine float_k (fun K hK => ?_)
      go_simp
      refine (kR w' hx).mono ?_
      rintro e w2 ⟨rfl, hx2⟩
      exact hK (.int .i64 (8 - (len : Int))) w2 hx2 rfl
    case f35_1 =>
      intro g w' hx hd
      have eg : g 40 = .bool false := hd ⟨29, .guard⟩ (by simp) rfl
      refine op_yes rfl rfl rfl rfl eg ?_
      generalize hA : mkAct _ _ g = A
      have h0 : A.tmps[0]?.getD undef = .pointer (some ⟨wq, 0, none⟩) := by rw [← hA]; exact mkAct_out2 _ _ _ _ _ rfl rfl
      refine step_val (v := .pointer (some ⟨wq, 0, none⟩)) (w' := w') ?_ ⟨_, rfl, Ext.refl _ _, rfl⟩
      simp [execOp, h0, Result.andThen, go_sem]
    case f36_1 =>
      intro g w' hx hd
      have eg : g 40 = .bool false := hd ⟨29, .guard⟩ (by simp) rfl
      refine op_yes rfl rfl rfl rfl eg ?_
      have e46 : g 46 = .pointer (some ⟨wq, 0, none⟩) := hd ⟨35, .data⟩ (by simp) rfl
      generalize hA : mkAct _ _ g = A
      have h46 : A.tmps[46]?.getD undef = .pointer (some ⟨wq, 0, none⟩) := by rw [← hA, mkAct_in2 _ _ _ _ rfl rfl]; exact e46
      refine step_val (v := .pointer (some ⟨wq, 0, none⟩)) (w' := w') ?_ ⟨_, rfl, Ext.refl _ _, rfl⟩
      simp [execOp, h46, Result.andThen, go_sem]
    case f37_1 =>
      intro g w' hx hd
      have eg : g 40 = .bool false := hd ⟨29, .guard⟩ (by simp) rfl
      refine op_yes rfl rfl rfl rfl eg ?_
      have e47 : g 47 = .pointer (some ⟨wq, 0, none⟩) := hd ⟨36, .data⟩ (by simp) rfl
      generalize hA : mkAct _ _ g = A
      have h47 : A.tmps[47]?.getD undef = .pointer (some ⟨wq, 0, none⟩) := by rw [← hA, mkAct_in2 _ _ _ _ rfl rfl]; exact e47
      refine step_val (v := .pointer (some ⟨wq, 3, none⟩)) (w' := w') ?_ ⟨_, rfl, Ext.refl _ _, rfl⟩
      simp [execOp, h47, Result.andThen, go_sem]
    case f38_1 =>
      intro g w' hx hd
      have eg : g 40 = .bool false := hd ⟨29, .guard⟩ (by simp) rfl
      refine op_yes rfl rfl rfl rfl eg ?_
      have e48 : g 48 = .pointer (some ⟨wq, 3, none⟩) := hd ⟨37, .data⟩ (by simp) rfl
      generalize hA : mkAct _ _ g = A
      have h48 : A.tmps[48]?.getD undef = .pointer (some ⟨wq, 3, none⟩) := by rw [← hA, mkAct_in2 _ _ _ _ rfl rfl]; exact e48
      have c := c3 w' hx
      refine step_val (v := .slice a len cap) (w' := w') ?_ ⟨_, rfl, Ext.refl _ _, rfl⟩
      simp [execOp, h48, c, Result.andThen, go_sem]
    case f39_1 =>
      intro g w' hx hd
      have eg : g 40 = .bool false := hd ⟨29, .guard⟩ (by simp) rfl
      refine op_yes rfl rfl rfl rfl eg ?_
      have e49 : g 49 = .slice a len cap := hd ⟨38, .data⟩ (by simp) rfl
      generalize hA : mkAct _ _ g = A
      have h49 : A.tmps[49]?.getD undef = .slice a len cap := by rw [← hA, mkAct_in2 _ _ _ _ rfl rfl]; exact e49
      refine step_val (v := .int .i64 (len)) (w' := w') ?_ ⟨_, rfl, Ext.refl _ _, rfl⟩
      simp [execOp, h49, Result.andThen, go_sem]
    case f40_1 =>
      intro g w' hx hd
      have eg : g 40 = .bool false := hd ⟨29, .guard⟩ (by simp) rfl
      refine op_yes rfl rfl rfl rfl eg ?_
      have e50 : g 50 = .int .i64 (len) := hd ⟨39, .data⟩ (by simp) rfl
      generalize hA : mkAct _ _ g = A
      have h50 : A.tmps[50]?.getD undef = .int .i64 (len) := by rw [← hA, mkAct_in2 _ _ _ _ rfl rfl]; exact e50
      refine step_val (v := .int .i64 (8 - (len : Int))) (w' := w') ?_ ⟨_, rfl, Ext.refl _ _, rfl⟩
      simp [execOp, h50, Result.andThen, go_sem]
      exact IntWalk.i64_in _ ⟨by omega, by omega⟩
    case f41_1 =>
      intro g w' hx hd
      have eg : g 40 = .bool false := hd ⟨29, .guard⟩ (by simp) rfl
      refine op_yes rfl rfl rfl rfl eg ?_
      have e45 : g 45 = .int .i64 (8 - (len : Int)) := hd ⟨34, .data⟩ (by simp) rfl
      have e51 : g 51 = .int .i64 (8 - (len : Int)) := hd ⟨40, .data⟩ (by simp) rfl
      generalize hA : mkAct _ _ g = A
      have h45 : A.tmps[45]?.getD undef = .int .i64 (8 - (len : Int)) := by rw [← hA, mkAct_in2 _ _ _ _ rfl rfl]; exact e45
      have h51 : A.tmps[51]?.getD undef = .int .i64 (8 - (len : Int)) := by rw [← hA, mkAct_in2 _ _ _ _ rfl rfl]; exact e51
      refine step_val (v := .bool false) (w' := w') ?_ ⟨_, rfl, Ext.refl _ _, rfl⟩
      simp [execOp, h45, h51, Result.andThen, go_sem]
    case f42_1 =>
      intro g w' hx hd
      refine op_run rfl ?_
      have e40 : g 40 = .bool false := hd ⟨29, .data⟩ (by simp) rfl
      have e52 : g 52 = .bool false := hd ⟨41, .data⟩ (by simp) rfl
      generalize hA : mkAct _ _ g = A
      have h40 : A.tmps[40]?.getD undef = .bool false := by rw [← hA, mkAct_in2 _ _ _ _ rfl rfl]; exact e40
      have h52 : A.tmps[52]?.getD undef = .bool false := by rw [← hA, mkAct_in2 _ _ _ _ rfl rfl]; exact e52
      refine step_val (v := .bool false) (w' := w') ?_ ⟨_, rfl, Ext.refl _ _, rfl⟩
      simp [execOp, h40, h52, Result.andThen, go_sem]
    case f43_1 =>
      intro g w' hx hd
      refine op_run rfl ?_
      have e53 : g 53 = .bool false := hd ⟨42, .data⟩ (by simp) rfl
      generalize hA : mkAct _ _ g = A
      have h53 : A.tmps[53]?.getD undef = .bool false := by rw [← hA, mkAct_in2 _ _ _ _ rfl rfl]; exact e53
      refine step_val (v := .bool false) (w' := w') ?_ ⟨_, rfl, Ext.refl _ _, rfl⟩
      simp [execOp, h53, Result.andThen, go_sem]
    case f44_1 =>
      intro g w' hx hd
      have eg : g 54 = .bool false := hd ⟨43, .guard⟩ (by simp) rfl
      refine op_yes rfl rfl rfl rfl eg ?_
      generalize hA : mkAct _ _ g = A
      have h0 : A.tmps[0]?.getD undef = .pointer (some ⟨wq, 0, none⟩) := by rw [← hA]; exact mkAct_out2 _ _ _ _ _ rfl rfl
      refine step_val (v := .pointer (some ⟨wq, 0, none⟩)) (w' := w') ?_ ⟨_, rfl, Ext.refl _ _, rfl⟩
      simp [execOp, h0, Result.andThen, go_sem]
    case f45_1 =>
      intro g w' hx hd
      have eg : g 54 = .bool false := hd ⟨43, .guard⟩ (by simp) rfl
      refine op_yes rfl rfl rfl rfl eg ?_
      have e55 : g 55 = .pointer (some ⟨wq, 0, none⟩) := hd ⟨44, .data⟩ (by simp) rfl
      generalize hA : mkAct _ _ g = A
      have h55 : A.tmps[55]?.getD undef = .pointer (some ⟨wq, 0, none⟩) := by rw [← hA, mkAct_in2 _ _ _ _ rfl rfl]; exact e55
      refine step_val (v := .pointer (some ⟨wq, 0, none⟩)) (w' := w') ?_ ⟨_, rfl, Ext.refl _ _, rfl⟩
      simp [execOp, h55, Result.andThen, go_sem]
    case f46_1 =>
      intro g w' hx hd
      have eg : g 54 = .bool false := hd ⟨43, .guard⟩ (by simp) rfl
      refine op_yes rfl rfl rfl rfl eg ?_
      have e56 : g 56 = .pointer (some ⟨wq, 0, none⟩) := hd ⟨45, .data⟩ (by simp) rfl
      generalize hA : mkAct _ _ g = A
      have h56 : A.tmps[56]?.getD undef = .pointer (some ⟨wq, 0, none⟩) := by rw [← hA, mkAct_in2 _ _ _ _ rfl rfl]; exact e56
      refine step_val (v := .pointer (some ⟨wq, 1, none⟩)) (w' := w') ?_ ⟨_, rfl, Ext.refl _ _, rfl⟩
      simp [execOp, h56, Result.andThen, go_sem]
    case f47_1 =>
      intro g w' hx hd
      have eg : g 54 = .bool false := hd ⟨43, .guard⟩ (by simp) rfl
      refine op_yes rfl rfl rfl rfl eg ?_
      have e57 : g 57 = .pointer (some ⟨wq, 1, none⟩) := hd ⟨46, .data⟩ (by simp) rfl
      generalize hA : mkAct _ _ g = A
      have h57 : A.tmps[57]?.getD undef = .pointer (some ⟨wq, 1, none⟩) := by rw [← hA, mkAct_in2 _ _ _ _ rfl rfl]; exact e57
      have c := c1 w' hx
      refine step_val (v := .pointer (some ⟨q, 0, none⟩)) (w' := w') ?_ ⟨_, rfl, Ext.refl _ _, rfl⟩
      simp [execOp, h57, c, Result.andThen, go_sem]
    case f48_1 =>
      intro g w' hx hd
      have eg : g 54 = .bool false := hd ⟨43, .guard⟩ (by simp) rfl
      refine op_yes rfl rfl rfl rfl eg ?_
      have e58 : g 58 = .pointer (some ⟨q, 0, none⟩) := hd ⟨47, .data⟩ (by simp) rfl
      generalize hA : mkAct _ _ g = A
      have h58 : A.tmps[58]?.getD undef = .pointer (some ⟨q, 0, none⟩) := by rw [← hA, mkAct_in2 _ _ _ _ rfl rfl]; exact e58
      refine float_k (fun K hK => ?_)
      go_simp
      refine (kH w' hx).mono ?_
      rintro e w2 ⟨rfl, hx2⟩
      exact hK (.int .i64 0) w2 hx2 rfl
    case f49_1 =>
      intro g w' hx hd
      have eg : g 54 = .bool false := hd ⟨43, .guard⟩ (by simp) rfl
      refine op_yes rfl rfl rfl rfl eg ?_
      have e59 : g 59 = .int .i64 0 := hd ⟨48, .data⟩ (by simp) rfl
      generalize hA : mkAct _ _ g = A
      have h59 : A.tmps[59]?.getD undef = .int .i64 0 := by rw [← hA, mkAct_in2 _ _ _ _ rfl rfl]; exact e59
      refine step_val (v := .bool false) (w' := w') ?_ ⟨_, rfl, Ext.refl _ _, rfl⟩
      simp [execOp, h59, Result.andThen, go_sem]
    case f50_1 =>
      intro g w' hx hd
      refine op_run rfl ?_
      have e54 : g 54 = .bool false := hd ⟨43, .data⟩ (by simp) rfl
      have e60 : g 60 = .bool false := hd ⟨49, .data⟩ (by simp) rfl
      generalize hA : mkAct _ _ g = A
      have h54 : A.tmps[54]?.getD undef = .bool false := by rw [← hA, mkAct_in2 _ _ _ _ rfl rfl]; exact e54
      have h60 : A.tmps[60]?.getD undef = .bool false := by rw [← hA, mkAct_in2 _ _ _ _ rfl rfl]; exact e60
      refine step_val (v := .bool false) (w' := w') ?_ ⟨_, rfl, Ext.refl _ _, rfl⟩
      simp [execOp, h54, h60, Result.andThen, go_sem]
  intro g wn hxn hd
  have e61 : g 61 = .bool false := hd 50 (by decide)
  have HS1 := Hid.of (HS.out.keep hxn)
  have HR1 := Hid.of (HR.out.keep hxn (by simp))
  have HX1 := Hid.of hxn
  clear hd c1 c2 c3 kF kL kR kH hxn
  unfold mkAct; simp only [List.zipIdx_cons, List.zipIdx_nil, List.map_cons, List.map_nil, Nat.zero_add, Nat.reduceAdd, List.contains_cons, List.contains_nil, Nat.reduceBEq, Bool.or_false, Bool.or_true, ↓reduceIte, Bool.false_eq_true]
  rw [e61]
  clear e61
  have c3 : wn.cell? ⟨wq, 3, none⟩ = some (.slice a len cap) := Blk.c HS1.out.blk 3
  go_upto_region 4 with fail
  go_loopw [67] (fun u67 wr => ∃ (j : Nat), u67 = .int .i64 (j : Int) ∧ j ≤ len ∧ Hid (Ext [] w wr)) (fun u67 _ => len - (intOf u67).toNat)
  case atStart => exact ⟨0, rfl, by omega, HX1⟩
  case round =>
    obtain ⟨j, rfl, hj, hX⟩ := hrel
    by_cases hjl : j < len
    · have hRr := HR.out.keep hX.out (by simp)
      have hSr := HS.out.keep hX.out
      obtain ⟨g, off, rfl, hgw, hc⟩ := hRr.view (by omega)
      have hje : j < all.length := by have := HL.out; omega
      have c0 : wr.cell? ⟨g, off + j * 3, none⟩ = some (.int .i64 all[j].idx) := hc (j * 3 + 0) _ (by rw [flatMap_get _ 3 ecells_len _ j 0 hje (by omega)]; rfl)
      have c1 : wr.cell? ⟨g, off + (j * 3 + 1), none⟩ = some (.int .i64 all[j].term) := hc (j * 3 + 1) _ (by rw [flatMap_get _ 3 ecells_len _ j 1 hje (by omega)]; rfl)
      have c2 : wr.cell? ⟨g, off + (j * 3 + 2), none⟩ = some (str all[j].data) := hc (j * 3 + 2) _ (by rw [flatMap_get _ 3 ecells_len _ j 2 hje (by omega)]; rfl)
      rw [← Nat.add_assoc] at c1 c2
      obtain ⟨E, hE⟩ : ∃ E, E = wr.heap.size := ⟨_, rfl⟩
      have kD := HS.out.readg j hje
      have kTm := fun w' (hx : Ext [] w w') => (HS.out.keep hx).term_c j hje
      have kRd := fun w' (hx : Ext [] w w') => (HS.out.keep hx).readg j hje
      obtain ⟨e, he⟩ : ∃ e, e = all[j] := ⟨_, rfl⟩
      rw [← he] at c0 c1 c2 kTm kRd
      obtain ⟨xi, xt, xd⟩ := e
      simp only [Ent.val] at c0 c1 c2 kTm kRd
      obtain ⟨W, hW⟩ : ∃ W, W = wr.alloc (.cells #[.int .i64 xi, .int .i64 xt, .string ⟨xd.toArray⟩] 37) := ⟨_, rfl⟩
      have HEW : Hid (Blk W E 37 [.int .i64 xi, .int .i64 xt, str xd]) := Hid.of (by rw [hE, hW]; exact Blk.new wr 37 #[.int .i64 xi, .int .i64 xt, str xd])
      have HXW : Hid (Ext [] w W) := Hid.of (by rw [hW]; exact hX.out.alloc _)
      clear he kD hRr hSr hgw hc
      go_upto_region 6 with fail
      rw [← hE, ← hW]
      clear hE hW c0 c1 c2 hX
      have HRd := Hid.of kRd
      have c1 := fun w' (hx : Ext [] W w') => Blk.c (HS.out.keep (HXW.out.then0 hx)).blk 1
      have c2 := fun w' (hx : Ext [] W w') => Blk.c (HS.out.keep (HXW.out.then0 hx)).blk 2
      simp only [List.getElem?_cons_zero, List.getElem?_cons_succ] at c1 c2
      replace kRd := fun w' (hx : Ext [] W w') => HRd.out w' (HXW.out.then0 hx)
      refine wp_region_stepsk [73, 74, 75, 76, 77, 78, 79, 80, 81, 82, 83, 72, 84, 85, 5, 6] (fun i => if i = 15 then 14 else i) (sh6Φ W wq q first j xi xt xd) (by kernel_rfl) (by kernel_rfl) (by kernel_rfl) ?hno_6 (by kernel_rfl) (by kernel_rfl) ?hst_6 ?hend_6
      case hno_6 =>
        intro i v v' x w' _ hi h
        by_cases e : i = 15
        · subst e; exact h
        · rw [if_neg e] at hi; exact absurd rfl hi
      case hst_6 =>
        refine ⟨?f0_6, ?f1_6, ?f2_6, ?f3_6, ?f4_6, ?f5_6, ?f6_6, ?f7_6, ?f8_6, ?f9_6, ?f10_6, ?f11_6, ?f12_6, ?f13_6, ?f14_6, ?f15_6, ?f16_6, trivial⟩
        case f0_6 =>
          intro g w' hx hd
          refine opOb_k (sh6Φ_keep _ _ _ _ _ _ _ _) rfl hx ?_
          refine op_run rfl ?_
          generalize hA : mkAct _ _ g = A
          have h0 : A.tmps[0]?.getD undef = .pointer (some ⟨wq, 0, none⟩) := by rw [← hA]; exact mkAct_out2 _ _ _ _ _ rfl rfl
          refine step_val (v := .pointer (some ⟨wq, 0, none⟩)) (w' := w') ?_ ⟨_, rfl, Ext.refl _ _, rfl⟩
          simp [execOp, h0, Result.andThen, go_sem]
        case f1_6 =>
          intro g w' hx hd
          refine opOb_k (sh6Φ_keep _ _ _ _ _ _ _ _) rfl hx ?_
          refine op_run rfl ?_
          have e73 : g 73 = .pointer (some ⟨wq, 0, none⟩) := hd ⟨0, .data⟩ (by simp) rfl
          generalize hA : mkAct _ _ g = A
          have h73 : A.tmps[73]?.getD undef = .pointer (some ⟨wq, 0, none⟩) := by rw [← hA, mkAct_in2 _ _ _ _ rfl rfl]; exact e73
          refine step_val (v := .pointer (some ⟨wq, 0, none⟩)) (w' := w') ?_ ⟨_, rfl, Ext.refl _ _, rfl⟩
          simp [execOp, h73, Result.andThen, go_sem]
        case f2_6 =>
          intro g w' hx hd
          refine opOb_k (sh6Φ_keep _ _ _ _ _ _ _ _) rfl hx ?_
          refine op_run rfl ?_
          have e74 : g 74 = .pointer (some ⟨wq, 0, none⟩) := hd ⟨1, .data⟩ (by simp) rfl
          generalize hA : mkAct _ _ g = A
          have h74 : A.tmps[74]?.getD undef = .pointer (some ⟨wq, 0, none⟩) := by rw [← hA, mkAct_in2 _ _ _ _ rfl rfl]; exact e74
          refine step_val (v := .pointer (some ⟨wq, 1, none⟩)) (w' := w') ?_ ⟨_, rfl, Ext.refl _ _, rfl⟩
          simp [execOp, h74, Result.andThen, go_sem]
        case f3_6 =>
          intro g w' hx hd
          refine opOb_k (sh6Φ_keep _ _ _ _ _ _ _ _) rfl hx ?_
          refine op_run rfl ?_
          have e75 : g 75 = .pointer (some ⟨wq, 1, none⟩) := hd ⟨2, .data⟩ (by simp) rfl
          generalize hA : mkAct _ _ g = A
          have h75 : A.tmps[75]?.getD undef = .pointer (some ⟨wq, 1, none⟩) := by rw [← hA, mkAct_in2 _ _ _ _ rfl rfl]; exact e75
          have c := c1 w' hx
          refine step_val (v := .pointer (some ⟨q, 0, none⟩)) (w' := w') ?_ ⟨_, rfl, Ext.refl _ _, rfl⟩
          simp [execOp, h75, c, Result.andThen, go_sem]
        case f4_6 =>
          intro g w' hx hd
          refine opOb_k (sh6Φ_keep _ _ _ _ _ _ _ _) rfl hx ?_
          refine op_run rfl ?_
          generalize hA : mkAct _ _ g = A
          have h0 : A.tmps[0]?.getD undef = .pointer (some ⟨wq, 0, none⟩) := by rw [← hA]; exact mkAct_out2 _ _ _ _ _ rfl rfl
          refine step_val (v := .pointer (some ⟨wq, 0, none⟩)) (w' := w') ?_ ⟨_, rfl, Ext.refl _ _, rfl⟩
          simp [execOp, h0, Result.andThen, go_sem]
        case f5_6 =>
          intro g w' hx hd
          refine opOb_k (sh6Φ_keep _ _ _ _ _ _ _ _) rfl hx ?_
          refine op_run rfl ?_
          have e77 : g 77 = .pointer (some ⟨wq, 0, none⟩) := hd ⟨4, .data⟩ (by simp) rfl
          generalize hA : mkAct _ _ g = A
          have h77 : A.tmps[77]?.getD undef = .pointer (some ⟨wq, 0, none⟩) := by rw [← hA, mkAct_in2 _ _ _ _ rfl rfl]; exact e77
          refine step_val (v := .pointer (some ⟨wq, 0, none⟩)) (w' := w') ?_ ⟨_, rfl, Ext.refl _ _, rfl⟩
          simp [execOp, h77, Result.andThen, go_sem]
        case f6_6 =>
          intro g w' hx hd
          refine opOb_k (sh6Φ_keep _ _ _ _ _ _ _ _) rfl hx ?_
          refine op_run rfl ?_
          have e78 : g 78 = .pointer (some ⟨wq, 0, none⟩) := hd ⟨5, .data⟩ (by simp) rfl
          generalize hA : mkAct _ _ g = A
          have h78 : A.tmps[78]?.getD undef = .pointer (some ⟨wq, 0, none⟩) := by rw [← hA, mkAct_in2 _ _ _ _ rfl rfl]; exact e78
          refine step_val (v := .pointer (some ⟨wq, 2, none⟩)) (w' := w') ?_ ⟨_, rfl, Ext.refl _ _, rfl⟩
          simp [execOp, h78, Result.andThen, go_sem]
        case f7_6 =>
          intro g w' hx hd
          refine opOb_k (sh6Φ_keep _ _ _ _ _ _ _ _) rfl hx ?_
          refine op_run rfl ?_
          have e79 : g 79 = .pointer (some ⟨wq, 2, none⟩) := hd ⟨6, .data⟩ (by simp) rfl
          generalize hA : mkAct _ _ g = A
          have h79 : A.tmps[79]?.getD undef = .pointer (some ⟨wq, 2, none⟩) := by rw [← hA, mkAct_in2 _ _ _ _ rfl rfl]; exact e79
          have c := c2 w' hx
          refine step_val (v := .int .i64 first) (w' := w') ?_ ⟨_, rfl, Ext.refl _ _, rfl⟩
          simp [execOp, h79, c, Result.andThen, go_sem]
        case f8_6 =>
          intro g w' hx hd
          refine opOb_k (sh6Φ_keep _ _ _ _ _ _ _ _) rfl hx ?_
          refine op_run rfl ?_
          generalize hA : mkAct _ _ g = A
          have h3 : A.tmps[3]?.getD undef = .int .i64 (j) := by rw [← hA]; exact mkAct_out2 _ _ _ _ _ rfl rfl
          refine step_val (v := .int .i64 (j)) (w' := w') ?_ ⟨_, rfl, Ext.refl _ _, rfl⟩
          simp [execOp, h3, Result.andThen, go_sem]
        case f9_6 =>
          intro g w' hx hd
          refine opOb_k (sh6Φ_keep _ _ _ _ _ _ _ _) rfl hx ?_
          refine op_run rfl ?_
          have e80 : g 80 = .int .i64 first := hd ⟨7, .data⟩ (by simp) rfl
          have e81 : g 81 = .int .i64 (j) := hd ⟨8, .data⟩ (by simp) rfl
          generalize hA : mkAct _ _ g = A
          have h80 : A.tmps[80]?.getD undef = .int .i64 first := by rw [← hA, mkAct_in2 _ _ _ _ rfl rfl]; exact e80
          have h81 : A.tmps[81]?.getD undef = .int .i64 (j) := by rw [← hA, mkAct_in2 _ _ _ _ rfl rfl]; exact e81
          refine step_val (v := .int .i64 (first + (j : Int))) (w' := w') ?_ ⟨_, rfl, Ext.refl _ _, rfl⟩
          simp [execOp, h80, h81, Result.andThen, go_sem]
          exact IntWalk.i64_in _ ⟨by omega, by omega⟩
        case f10_6 =>
          intro g w' hx hd
          refine opOb_k (sh6Φ_keep _ _ _ _ _ _ _ _) rfl hx ?_
          refine op_run rfl ?_
          have e76 : g 76 = .pointer (some ⟨q, 0, none⟩) := hd ⟨3, .data⟩ (by simp) rfl
          have e82 : g 82 = .int .i64 (first + (j : Int)) := hd ⟨9, .data⟩ (by simp) rfl
          generalize hA : mkAct _ _ g = A
          have h76 : A.tmps[76]?.getD undef = .pointer (some ⟨q, 0, none⟩) := by rw [← hA, mkAct_in2 _ _ _ _ rfl rfl]; exact e76
          have h82 : A.tmps[82]?.getD undef = .int .i64 (first + (j : Int)) := by rw [← hA, mkAct_in2 _ _ _ _ rfl rfl]; exact e82
          refine float_k (fun K hK => ?_)
          go_simp
          refine (kRd w' hx).mono ?_
          rintro e w2 ⟨rfl, hx2⟩
          exact hK (.tuple #[.agg #[.int .i64 xi, .int .i64 xt, .string ⟨xd.toArray⟩], .int .i64 1]) w2 hx2 rfl
        case f11_6 =>
          intro g w' hx hd
          refine opOb_k (sh6Φ_keep _ _ _ _ _ _ _ _) rfl hx ?_
          refine op_run rfl ?_
          have e83 : g 83 = .tuple #[.agg #[.int .i64 xi, .int .i64 xt, .string ⟨xd.toArray⟩], .int .i64 1] := hd ⟨10, .data⟩ (by simp) rfl
          generalize hA : mkAct _ _ g = A
          have h83 : A.tmps[83]?.getD undef = .tuple #[.agg #[.int .i64 xi, .int .i64 xt, .string ⟨xd.toArray⟩], .int .i64 1] := by rw [← hA, mkAct_in2 _ _ _ _ rfl rfl]; exact e83
          refine step_val (v := .tuple #[.agg #[.int .i64 xi, .int .i64 xt, .string ⟨xd.toArray⟩], .int .i64 1]) (w' := w') ?_ ⟨_, rfl, Ext.refl _ _, rfl⟩
          simp [execOp, h83, Result.andThen, go_sem]
        case f12_6 =>
          intro g w' hx hd
          refine opOb_k (sh6Φ_keep _ _ _ _ _ _ _ _) rfl hx ?_
          refine op_run rfl ?_
          have e72 : g 72 = .tuple #[.agg #[.int .i64 xi, .int .i64 xt, .string ⟨xd.toArray⟩], .int .i64 1] := hd ⟨11, .data⟩ (by simp) rfl
          generalize hA : mkAct _ _ g = A
          have h72 : A.tmps[72]?.getD undef = .tuple #[.agg #[.int .i64 xi, .int .i64 xt, .string ⟨xd.toArray⟩], .int .i64 1] := by rw [← hA, mkAct_in2 _ _ _ _ rfl rfl]; exact e72
          refine step_val (v := .agg #[.int .i64 xi, .int .i64 xt, .string ⟨xd.toArray⟩]) (w' := w') ?_ ⟨_, rfl, Ext.refl _ _, rfl⟩
          simp [execOp, h72, Result.andThen, go_sem]
        case f13_6 =>
          intro g w' hx hd
          refine opOb_k (sh6Φ_keep _ _ _ _ _ _ _ _) rfl hx ?_
          refine op_run rfl ?_
          have e72 : g 72 = .tuple #[.agg #[.int .i64 xi, .int .i64 xt, .string ⟨xd.toArray⟩], .int .i64 1] := hd ⟨11, .data⟩ (by simp) rfl
          generalize hA : mkAct _ _ g = A
          have h72 : A.tmps[72]?.getD undef = .tuple #[.agg #[.int .i64 xi, .int .i64 xt, .string ⟨xd.toArray⟩], .int .i64 1] := by rw [← hA, mkAct_in2 _ _ _ _ rfl rfl]; exact e72
          refine step_val (v := .int .i64 1) (w' := w') ?_ ⟨_, rfl, Ext.refl _ _, rfl⟩
          simp [execOp, h72, Result.andThen, go_sem]
        case f14_6 =>
          intro g w' hx hd
          refine opOb_k (sh6Φ_keep _ _ _ _ _ _ _ _) rfl hx ?_
          refine op_run rfl ?_
          generalize hA : mkAct _ _ g = A
          refine step_val (v := .pointer (some ⟨w'.heap.size, 0, none⟩)) (w' := w'.alloc (.cells #[.int .i64 0, .int .i64 0, .string ⟨#[]⟩] 37)) ?_ ⟨_, rfl, (Ext.refl _ _).alloc _, ⟨w'.heap.size, [.int .i64 0, .int .i64 0, .string ⟨#[]⟩], rfl, hx.size, rfl, Blk.new w' 37 #[.int .i64 0, .int .i64 0, .string ⟨#[]⟩]⟩⟩
          simp [execOp, Result.andThen, go_sem]
        case f15_6 =>
          intro g w' hx hd
          refine op_run rfl ?_
          obtain ⟨G, cs, eG, hG, hl, hB⟩ := hd ⟨14, .data⟩ (by simp) rfl
          have eV : g 84 = .agg #[.int .i64 xi, .int .i64 xt, .string ⟨xd.toArray⟩] := hd ⟨12, .data⟩ (by simp) rfl
          unfold StepK
          generalize hA : mkAct _ _ g = A
          have h5 : A.tmps[5]?.getD undef = .pointer (some ⟨G, 0, none⟩) := by rw [← hA, mkAct_in2 _ _ _ _ rfl rfl]; exact eG
          have h6 : A.tmps[84]?.getD undef = .agg #[.int .i64 xi, .int .i64 xt, .string ⟨xd.toArray⟩] := by rw [← hA, mkAct_in2 _ _ _ _ rfl rfl]; exact eV
          obtain ⟨z0, z1, z2, rfl⟩ : ∃ z0 z1 z2, cs = [z0, z1, z2] := list3 hl
          have c0 : w'.cell? ⟨G, 0, none⟩ = some z0 := Blk.c hB 0
          have c1 : w'.cell? ⟨G, 1, none⟩ = some z1 := Blk.c hB 1
          have c2 : w'.cell? ⟨G, 2, none⟩ = some z2 := Blk.c hB 2
          have cf := fun j => Blk.f hB j
          have cl := Blk.lt hB
          have hB2 : Blk (((w'.setCell ⟨G, 0, none⟩ (.int .i64 xi)).setCell ⟨G, 1, none⟩ (.int .i64 xt)).setCell ⟨G, 2, none⟩ (.string ⟨xd.toArray⟩)) G 37 [.int .i64 xi, .int .i64 xt, .string ⟨xd.toArray⟩] := (Blk.set (Blk.set (Blk.set hB 0 (.int .i64 xi)) 1 (.int .i64 xt)) 2 (.string ⟨xd.toArray⟩))
          have hE2 : Ext [G] w' (((w'.setCell ⟨G, 0, none⟩ (.int .i64 xi)).setCell ⟨G, 1, none⟩ (.int .i64 xt)).setCell ⟨G, 2, none⟩ (.string ⟨xd.toArray⟩)) := ((((Ext.refl [G] w').setCell (p := ⟨G, 0, none⟩) (.inl (by simp)) (.int .i64 xi)).setCell (p := ⟨G, 1, none⟩) (.inl (by simp)) (.int .i64 xt)).setCell (p := ⟨G, 2, none⟩) (.inl (by simp)) (.string ⟨xd.toArray⟩))
          refine step_skip (w' := (((w'.setCell ⟨G, 0, none⟩ (.int .i64 xi)).setCell ⟨G, 1, none⟩ (.int .i64 xt)).setCell ⟨G, 2, none⟩ (.string ⟨xd.toArray⟩))) ?_ ⟨_, rfl, hx.trans hE2 (fun z hz => .inr (by simp at hz; subst hz; exact hG)), ⟨G, eG, hB2⟩, fun j u x hj h => sh6Φ_set _ _ _ _ _ _ _ _ j u x _ _ hj h rfl hE2 hB2⟩
          simp [execOp, h5, h6, c0, c1, c2, cf, cl, Result.andThen, go_sem]
        case f16_6 =>
          intro g w' hx hd
          refine opOb_k (sh6Φ_keep _ _ _ _ _ _ _ _) rfl hx ?_
          refine op_run rfl ?_
          have e85 : g 85 = .int .i64 1 := hd ⟨13, .data⟩ (by simp) rfl
          generalize hA : mkAct _ _ g = A
          have h85 : A.tmps[85]?.getD undef = .int .i64 1 := by rw [← hA, mkAct_in2 _ _ _ _ rfl rfl]; exact e85
          refine step_val (v := .int .i64 1) (w' := w') ?_ ⟨_, rfl, Ext.refl _ _, rfl⟩
          simp [execOp, h85, Result.andThen, go_sem]
      intro g wn hxn hd
      obtain ⟨G, eG, hBG⟩ := hd 15 (by decide)
      replace eG : g 5 = .pointer (some ⟨G, 0, none⟩) := eG
      have e6 : g 6 = .int .i64 1 := hd 16 (by decide)
      have HX6 := Hid.of (HXW.out.then0 hxn)
      have HE6 := Hid.of (Blk.keep HEW.out hxn List.not_mem_nil)
      have HG6 := Hid.of hBG
      clear hd c1 c2 kRd hBG hxn HXW HEW HRd
      unfold mkAct; simp only [List.zipIdx_cons, List.zipIdx_nil, List.map_cons, List.map_nil, Nat.zero_add, Nat.reduceAdd, List.contains_cons, List.contains_nil, Nat.reduceBEq, Bool.or_false, Bool.or_true, ↓reduceIte, Bool.false_eq_true]
      rw [eG, e6]
      clear e6 eG
      have hj1 := fun w' (hx : Ext [] wn w') => Blk.c (HS.out.keep (HX6.out.then0 hx)).blk 1
      have hj2 := fun w' (hx : Ext [] wn w') => Blk.c (HS.out.keep (HX6.out.then0 hx)).blk 2
      simp only [List.getElem?_cons_zero, List.getElem?_cons_succ] at hj1 hj2
      have c1 := hj1
      have c2 := hj2
      clear hj1 hj2
      have cE := fun w' (hx : Ext [] wn w') => row3 (Blk.keep HE6.out hx List.not_mem_nil)
      have cG := fun w' (hx : Ext [] wn w') => row3 (Blk.keep HG6.out hx List.not_mem_nil)
      have cT := fun w' (hx : Ext [] wn w') => (row3 (Blk.keep HE6.out hx List.not_mem_nil)).2.1
      have kT := fun w' (hx : Ext [] wn w') => kTm w' (HX6.out.then0 hx)
      clear kTm
      go_upto_region 7 with fail
      refine wp_region_stepsg [86, 87, 88, 89, 90, 91, 92, 93, 94, 95, 96, 97, 98, 99, 100, 101, 102, 103, 104, 105, 106, 107, 108] (fun n y _ => match n with | 0 => y = .int .i64 1 | 1 => y = .bool false | 2 => y = .bool false | 3 => y = .agg #[.int .i64 xi, .int .i64 xt, .string ⟨xd.toArray⟩] | 4 => y = .agg #[.int .i64 xi, .int .i64 xt, .string ⟨xd.toArray⟩] | 5 => y = .bool false | 6 => y = .bool false | 7 => y = .bool false | 8 => y = .pointer (some ⟨wq, 0, none⟩) | 9 => y = .pointer (some ⟨wq, 0, none⟩) | 10 => y = .pointer (some ⟨wq, 1, none⟩) | 11 => y = .pointer (some ⟨q, 0, none⟩) | 12 => y = .pointer (some ⟨wq, 0, none⟩) | 13 => y = .pointer (some ⟨wq, 0, none⟩) | 14 => y = .pointer (some ⟨wq, 2, none⟩) | 15 => y = .int .i64 first | 16 => y = .int .i64 (j) | 17 => y = .int .i64 (first + (j : Int)) | 18 => y = .int .i64 xt | 19 => y = .pointer (some ⟨E, 1, none⟩) | 20 => y = .int .i64 xt | 21 => y = .bool false | 22 => y = .bool false | _ => True) (by kernel_rfl) (by kernel_rfl) (fun n y w1 w2 h hx => h) ?_ ?_
      · refine ⟨?f0_7, ?f1_7, ?f2_7, ?f3_7, ?f4_7, ?f5_7, ?f6_7, ?f7_7, ?f8_7, ?f9_7, ?f10_7, ?f11_7, ?f12_7, ?f13_7, ?f14_7, ?f15_7, ?f16_7, ?f17_7, ?f18_7, ?f19_7, ?f20_7, ?f21_7, ?f22_7, trivial⟩
        case f0_7 =>
          intro g w' hx hd
          refine op_run rfl ?_
          generalize hA : mkAct _ _ g = A
          have h6 : A.tmps[6]?.getD undef = .int .i64 1 := by rw [← hA]; exact mkAct_out2 _ _ _ _ _ rfl rfl
          refine step_val (v := .int .i64 1) (w' := w') ?_ ⟨_, rfl, Ext.refl _ _, rfl⟩
          simp [execOp, h6, Result.andThen, go_sem]
        case f1_7 =>
          intro g w' hx hd
          refine op_run rfl ?_
          have e86 : g 86 = .int .i64 1 := hd ⟨0, .data⟩ (by simp) rfl
          generalize hA : mkAct _ _ g = A
          have h86 : A.tmps[86]?.getD undef = .int .i64 1 := by rw [← hA, mkAct_in2 _ _ _ _ rfl rfl]; exact e86
          refine step_val (v := .bool false) (w' := w') ?_ ⟨_, rfl, Ext.refl _ _, rfl⟩
          simp [execOp, h86, Result.andThen, go_sem]
        case f2_7 =>
          intro g w' hx hd
          refine op_run rfl ?_
          have e87 : g 87 = .bool false := hd ⟨1, .data⟩ (by simp) rfl
          generalize hA : mkAct _ _ g = A
          have h87 : A.tmps[87]?.getD undef = .bool false := by rw [← hA, mkAct_in2 _ _ _ _ rfl rfl]; exact e87
          refine step_val (v := .bool false) (w' := w') ?_ ⟨_, rfl, Ext.refl _ _, rfl⟩
          simp [execOp, h87, Result.andThen, go_sem]
        case f3_7 =>
          intro g w' hx hd
          have eg : g 88 = .bool false := hd ⟨2, .guard⟩ (by simp) rfl
          refine op_yes rfl rfl rfl rfl eg ?_
          generalize hA : mkAct _ _ g = A
          have h5 : A.tmps[5]?.getD undef = .pointer (some ⟨G, 0, none⟩) := by rw [← hA]; exact mkAct_out2 _ _ _ _ _ rfl rfl
          obtain ⟨d0, d1, d2⟩ := cG w' hx
          refine step_val (v := .agg #[.int .i64 xi, .int .i64 xt, .string ⟨xd.toArray⟩]) (w' := w') ?_ ⟨_, rfl, Ext.refl _ _, rfl⟩
          simp [execOp, h5, d0, d1, d2, Result.andThen, go_sem]
        case f4_7 =>
          intro g w' hx hd
          have eg : g 88 = .bool false := hd ⟨2, .guard⟩ (by simp) rfl
          refine op_yes rfl rfl rfl rfl eg ?_
          generalize hA : mkAct _ _ g = A
          have h4 : A.tmps[4]?.getD undef = .pointer (some ⟨E, 0, none⟩) := by rw [← hA]; exact mkAct_out2 _ _ _ _ _ rfl rfl
          obtain ⟨d0, d1, d2⟩ := cE w' hx
          refine step_val (v := .agg #[.int .i64 xi, .int .i64 xt, .string ⟨xd.toArray⟩]) (w' := w') ?_ ⟨_, rfl, Ext.refl _ _, rfl⟩
          simp [execOp, h4, d0, d1, d2, Result.andThen, go_sem]
        case f5_7 =>
          intro g w' hx hd
          have eg : g 88 = .bool false := hd ⟨2, .guard⟩ (by simp) rfl
          refine op_yes rfl rfl rfl rfl eg ?_
          have e89 : g 89 = .agg #[.int .i64 xi, .int .i64 xt, .string ⟨xd.toArray⟩] := hd ⟨3, .data⟩ (by simp) rfl
          have e90 : g 90 = .agg #[.int .i64 xi, .int .i64 xt, .string ⟨xd.toArray⟩] := hd ⟨4, .data⟩ (by simp) rfl
          generalize hA : mkAct _ _ g = A
          have h89 : A.tmps[89]?.getD undef = .agg #[.int .i64 xi, .int .i64 xt, .string ⟨xd.toArray⟩] := by rw [← hA, mkAct_in2 _ _ _ _ rfl rfl]; exact e89
          have h90 : A.tmps[90]?.getD undef = .agg #[.int .i64 xi, .int .i64 xt, .string ⟨xd.toArray⟩] := by rw [← hA, mkAct_in2 _ _ _ _ rfl rfl]; exact e90
          refine step_val (v := .bool false) (w' := w') ?_ ⟨_, rfl, Ext.refl _ _, rfl⟩
          simp [execOp, h89, h90, Result.andThen, go_sem]
        case f6_7 =>
          intro g w' hx hd
          refine op_run rfl ?_
          have e88 : g 88 = .bool false := hd ⟨2, .data⟩ (by simp) rfl
          have e91 : g 91 = .bool false := hd ⟨5, .data⟩ (by simp) rfl
          generalize hA : mkAct _ _ g = A
          have h88 : A.tmps[88]?.getD undef = .bool false := by rw [← hA, mkAct_in2 _ _ _ _ rfl rfl]; exact e88
          have h91 : A.tmps[91]?.getD undef = .bool false := by rw [← hA, mkAct_in2 _ _ _ _ rfl rfl]; exact e91
          refine step_val (v := .bool false) (w' := w') ?_ ⟨_, rfl, Ext.refl _ _, rfl⟩
          simp [execOp, h88, h91, Result.andThen, go_sem]
        case f7_7 =>
          intro g w' hx hd
          refine op_run rfl ?_
          have e92 : g 92 = .bool false := hd ⟨6, .data⟩ (by simp) rfl
          generalize hA : mkAct _ _ g = A
          have h92 : A.tmps[92]?.getD undef = .bool false := by rw [← hA, mkAct_in2 _ _ _ _ rfl rfl]; exact e92
          refine step_val (v := .bool false) (w' := w') ?_ ⟨_, rfl, Ext.refl _ _, rfl⟩
          simp [execOp, h92, Result.andThen, go_sem]
        case f8_7 =>
          intro g w' hx hd
          have eg : g 93 = .bool false := hd ⟨7, .guard⟩ (by simp) rfl
          refine op_yes rfl rfl rfl rfl eg ?_
          generalize hA : mkAct _ _ g = A
          have h0 : A.tmps[0]?.getD undef = .pointer (some ⟨wq, 0, none⟩) := by rw [← hA]; exact mkAct_out2 _ _ _ _ _ rfl rfl
          refine step_val (v := .pointer (some ⟨wq, 0, none⟩)) (w' := w') ?_ ⟨_, rfl, Ext.refl _ _, rfl⟩
          simp [execOp, h0, Result.andThen, go_sem]
        case f9_7 =>
          intro g w' hx hd
          have eg : g 93 = .bool false := hd ⟨7, .guard⟩ (by simp) rfl
          refine op_yes rfl rfl rfl rfl eg ?_
          have e94 : g 94 = .pointer (some ⟨wq, 0, none⟩) := hd ⟨8, .data⟩ (by simp) rfl
          generalize hA : mkAct _ _ g = A
          have h94 : A.tmps[94]?.getD undef = .pointer (some ⟨wq, 0, none⟩) := by rw [← hA, mkAct_in2 _ _ _ _ rfl rfl]; exact e94
          refine step_val (v := .pointer (some ⟨wq, 0, none⟩)) (w' := w') ?_ ⟨_, rfl, Ext.refl _ _, rfl⟩
          simp [execOp, h94, Result.andThen, go_sem]
        case f10_7 =>
          intro g w' hx hd
          have eg : g 93 = .bool false := hd ⟨7, .guard⟩ (by simp) rfl
          refine op_yes rfl rfl rfl rfl eg ?_
          have e95 : g 95 = .pointer (some ⟨wq, 0, none⟩) := hd ⟨9, .data⟩ (by simp) rfl
          generalize hA : mkAct _ _ g = A
          have h95 : A.tmps[95]?.getD undef = .pointer (some ⟨wq, 0, none⟩) := by rw [← hA, mkAct_in2 _ _ _ _ rfl rfl]; exact e95
          refine step_val (v := .pointer (some ⟨wq, 1, none⟩)) (w' := w') ?_ ⟨_, rfl, Ext.refl _ _, rfl⟩
          simp [execOp, h95, Result.andThen, go_sem]
        case f11_7 =>
          intro g w' hx hd
          have eg : g 93 = .bool false := hd ⟨7, .guard⟩ (by simp) rfl
          refine op_yes rfl rfl rfl rfl eg ?_
          have e96 : g 96 = .pointer (some ⟨wq, 1, none⟩) := hd ⟨10, .data⟩ (by simp) rfl
          generalize hA : mkAct _ _ g = A
          have h96 : A.tmps[96]?.getD undef = .pointer (some ⟨wq, 1, none⟩) := by rw [← hA, mkAct_in2 _ _ _ _ rfl rfl]; exact e96
          have c := c1 w' hx
          refine step_val (v := .pointer (some ⟨q, 0, none⟩)) (w' := w') ?_ ⟨_, rfl, Ext.refl _ _, rfl⟩
          simp [execOp, h96, c, Result.andThen, go_sem]
        case f12_7 =>
          intro g w' hx hd
          have eg : g 93 = .bool false := hd ⟨7, .guard⟩ (by simp) rfl
          refine op_yes rfl rfl rfl rfl eg ?_
          generalize hA : mkAct _ _ g = A
          have h0 : A.tmps[0]?.getD undef = .pointer (some ⟨wq, 0, none⟩) := by rw [← hA]; exact mkAct_out2 _ _ _ _ _ rfl rfl
          refine step_val (v := .pointer (some ⟨wq, 0, none⟩)) (w' := w') ?_ ⟨_, rfl, Ext.refl _ _, rfl⟩
          simp [execOp, h0, Result.andThen, go_sem]
        case f13_7 =>
          intro g w' hx hd
          have eg : g 93 = .bool false := hd ⟨7, .guard⟩ (by simp) rfl
          refine op_yes rfl rfl rfl rfl eg ?_
          have e98 : g 98 = .pointer (some ⟨wq, 0, none⟩) := hd ⟨12, .data⟩ (by simp) rfl
          generalize hA : mkAct _ _ g = A
          have h98 : A.tmps[98]?.getD undef = .pointer (some ⟨wq, 0, none⟩) := by rw [← hA, mkAct_in2 _ _ _ _ rfl rfl]; exact e98
          refine step_val (v := .pointer (some ⟨wq, 0, none⟩)) (w' := w') ?_ ⟨_, rfl, Ext.refl _ _, rfl⟩
          simp [execOp, h98, Result.andThen, go_sem]
        case f14_7 =>
          intro g w' hx hd
          have eg : g 93 = .bool false := hd ⟨7, .guard⟩ (by simp) rfl
          refine op_yes rfl rfl rfl rfl eg ?_
          have e99 : g 99 = .pointer (some ⟨wq, 0, none⟩) := hd ⟨13, .data⟩ (by simp) rfl
          generalize hA : mkAct _ _ g = A
          have h99 : A.tmps[99]?.getD undef = .pointer (some ⟨wq, 0, none⟩) := by rw [← hA, mkAct_in2 _ _ _ _ rfl rfl]; exact e99
          refine step_val (v := .pointer (some ⟨wq, 2, none⟩)) (w' := w') ?_ ⟨_, rfl, Ext.refl _ _, rfl⟩
          simp [execOp, h99, Result.andThen, go_sem]
        case f15_7 =>
          intro g w' hx hd
          have eg : g 93 = .bool false := hd ⟨7, .guard⟩ (by simp) rfl
          refine op_yes rfl rfl rfl rfl eg ?_
          have e100 : g 100 = .pointer (some ⟨wq, 2, none⟩) := hd ⟨14, .data⟩ (by simp) rfl
          generalize hA : mkAct _ _ g = A
          have h100 : A.tmps[100]?.getD undef = .pointer (some ⟨wq, 2, none⟩) := by rw [← hA, mkAct_in2 _ _ _ _ rfl rfl]; exact e100
          have c := c2 w' hx
          refine step_val (v := .int .i64 first) (w' := w') ?_ ⟨_, rfl, Ext.refl _ _, rfl⟩
          simp [execOp, h100, c, Result.andThen, go_sem]
        case f16_7 =>
          intro g w' hx hd
          have eg : g 93 = .bool false := hd ⟨7, .guard⟩ (by simp) rfl
          refine op_yes rfl rfl rfl rfl eg ?_
          generalize hA : mkAct _ _ g = A
          have h3 : A.tmps[3]?.getD undef = .int .i64 (j) := by rw [← hA]; exact mkAct_out2 _ _ _ _ _ rfl rfl
          refine step_val (v := .int .i64 (j)) (w' := w') ?_ ⟨_, rfl, Ext.refl _ _, rfl⟩
          simp [execOp, h3, Result.andThen, go_sem]
        case f17_7 =>
          intro g w' hx hd
          have eg : g 93 = .bool false := hd ⟨7, .guard⟩ (by simp) rfl
          refine op_yes rfl rfl rfl rfl eg ?_
          have e101 : g 101 = .int .i64 first := hd ⟨15, .data⟩ (by simp) rfl
          have e102 : g 102 = .int .i64 (j) := hd ⟨16, .data⟩ (by simp) rfl
          generalize hA : mkAct _ _ g = A
          have h101 : A.tmps[101]?.getD undef = .int .i64 first := by rw [← hA, mkAct_in2 _ _ _ _ rfl rfl]; exact e101
          have h102 : A.tmps[102]?.getD undef = .int .i64 (j) := by rw [← hA, mkAct_in2 _ _ _ _ rfl rfl]; exact e102
          refine step_val (v := .int .i64 (first + (j : Int))) (w' := w') ?_ ⟨_, rfl, Ext.refl _ _, rfl⟩
          simp [execOp, h101, h102, Result.andThen, go_sem]
          exact IntWalk.i64_in _ ⟨by omega, by omega⟩
        case f18_7 =>
          intro g w' hx hd
          have eg : g 93 = .bool false := hd ⟨7, .guard⟩ (by simp) rfl
          refine op_yes rfl rfl rfl rfl eg ?_
          have e97 : g 97 = .pointer (some ⟨q, 0, none⟩) := hd ⟨11, .data⟩ (by simp) rfl
          have e103 : g 103 = .int .i64 (first + (j : Int)) := hd ⟨17, .data⟩ (by simp) rfl
          generalize hA : mkAct _ _ g = A
          have h97 : A.tmps[97]?.getD undef = .pointer (some ⟨q, 0, none⟩) := by rw [← hA, mkAct_in2 _ _ _ _ rfl rfl]; exact e97
          have h103 : A.tmps[103]?.getD undef = .int .i64 (first + (j : Int)) := by rw [← hA, mkAct_in2 _ _ _ _ rfl rfl]; exact e103
          refine float_k (fun K hK => ?_)
          go_simp
          refine (kT w' hx).mono ?_
          rintro e w2 ⟨rfl, hx2⟩
          exact hK (.int .i64 xt) w2 hx2 rfl
        case f19_7 =>
          intro g w' hx hd
          have eg : g 93 = .bool false := hd ⟨7, .guard⟩ (by simp) rfl
          refine op_yes rfl rfl rfl rfl eg ?_
          generalize hA : mkAct _ _ g = A
          have h4 : A.tmps[4]?.getD undef = .pointer (some ⟨E, 0, none⟩) := by rw [← hA]; exact mkAct_out2 _ _ _ _ _ rfl rfl
          refine step_val (v := .pointer (some ⟨E, 1, none⟩)) (w' := w') ?_ ⟨_, rfl, Ext.refl _ _, rfl⟩
          simp [execOp, h4, Result.andThen, go_sem]
        case f20_7 =>
          intro g w' hx hd
          have eg : g 93 = .bool false := hd ⟨7, .guard⟩ (by simp) rfl
          refine op_yes rfl rfl rfl rfl eg ?_
          have e105 : g 105 = .pointer (some ⟨E, 1, none⟩) := hd ⟨19, .data⟩ (by simp) rfl
          generalize hA : mkAct _ _ g = A
          have h105 : A.tmps[105]?.getD undef = .pointer (some ⟨E, 1, none⟩) := by rw [← hA, mkAct_in2 _ _ _ _ rfl rfl]; exact e105
          have c := cT w' hx
          refine step_val (v := .int .i64 xt) (w' := w') ?_ ⟨_, rfl, Ext.refl _ _, rfl⟩
          simp [execOp, h105, c, Result.andThen, go_sem]
        case f21_7 =>
          intro g w' hx hd
          have eg : g 93 = .bool false := hd ⟨7, .guard⟩ (by simp) rfl
          refine op_yes rfl rfl rfl rfl eg ?_
          have e104 : g 104 = .int .i64 xt := hd ⟨18, .data⟩ (by simp) rfl
          have e106 : g 106 = .int .i64 xt := hd ⟨20, .data⟩ (by simp) rfl
          generalize hA : mkAct _ _ g = A
          have h104 : A.tmps[104]?.getD undef = .int .i64 xt := by rw [← hA, mkAct_in2 _ _ _ _ rfl rfl]; exact e104
          have h106 : A.tmps[106]?.getD undef = .int .i64 xt := by rw [← hA, mkAct_in2 _ _ _ _ rfl rfl]; exact e106
          refine step_val (v := .bool false) (w' := w') ?_ ⟨_, rfl, Ext.refl _ _, rfl⟩
          simp [execOp, h104, h106, Result.andThen, go_sem]
        case f22_7 =>
          intro g w' hx hd
          refine op_run rfl ?_
          have e93 : g 93 = .bool false := hd ⟨7, .data⟩ (by simp) rfl
          have e107 : g 107 = .bool false := hd ⟨21, .data⟩ (by simp) rfl
          generalize hA : mkAct _ _ g = A
          have h93 : A.tmps[93]?.getD undef = .bool false := by rw [← hA, mkAct_in2 _ _ _ _ rfl rfl]; exact e93
          have h107 : A.tmps[107]?.getD undef = .bool false := by rw [← hA, mkAct_in2 _ _ _ _ rfl rfl]; exact e107
          refine step_val (v := .bool false) (w' := w') ?_ ⟨_, rfl, Ext.refl _ _, rfl⟩
          simp [execOp, h93, h107, Result.andThen, go_sem]
      intro g wn hxn hd
      have e108 : g 108 = .bool false := hd 22 (by decide)
      have HX7 := Hid.of (HX6.out.then0 hxn)
      clear hd c1 c2 cE cG cT kT hxn
      unfold mkAct; simp only [List.zipIdx_cons, List.zipIdx_nil, List.map_cons, List.map_nil, Nat.zero_add, Nat.reduceAdd, List.contains_cons, List.contains_nil, Nat.reduceBEq, Bool.or_false, Bool.or_true, ↓reduceIte, Bool.false_eq_true]
      rw [e108]
      clear e108
      go_wp2
      exact ⟨⟨j + 1, by congr 1, by omega, HX7⟩, by simp [intOf]; omega⟩
    · obtain rfl : j = len := by omega
      have hc1 := fun w' (hx : Ext [] wr w') => Blk.c (HS.out.keep (hX.out.then0 hx)).blk 1
      have hc2 := fun w' (hx : Ext [] wr w') => Blk.c (HS.out.keep (hX.out.then0 hx)).blk 2
      have hc3 := fun w' (hx : Ext [] wr w') => Blk.c (HS.out.keep (hX.out.then0 hx)).blk 3
      simp only [List.getElem?_cons_zero, List.getElem?_cons_succ] at hc1 hc2 hc3
      have c1 := hc1
      have c2 := hc2
      clear hc1 hc2
      have kA : ∀ w' (hx : Ext [] wr w'), Calls Try.prog 18 #[.pointer (some ⟨q, 0, none⟩), .int .i64 (first - 1)] w' fun e w'' => e = .returned (.tuple #[.agg #[.int .i64 0, .int .i64 0, .string ⟨#[]⟩], .int .i64 0]) ∧ Ext [] w' w'' := fun w' hx => (HS.out.keep (hX.out.then0 hx)).readg0 (first - 1) (by omega)
      go_upto_region 10 with fail
      refine wp_region_stepsk [111, 112, 113, 114, 115, 116, 117, 118, 119, 120, 110, 121, 122, 7, 8] (fun i => if i = 14 then 13 else i) (sh10Φ wr wq q first) (by kernel_rfl) (by kernel_rfl) (by kernel_rfl) ?hno_10 (by kernel_rfl) (by kernel_rfl) ?hst_10 ?hend_10
      case hno_10 =>
        intro i v v' x w' _ hi h
        by_cases e : i = 14
        · subst e; exact h
        · rw [if_neg e] at hi; exact absurd rfl hi
      case hst_10 =>
        refine ⟨?f0_10, ?f1_10, ?f2_10, ?f3_10, ?f4_10, ?f5_10, ?f6_10, ?f7_10, ?f8_10, ?f9_10, ?f10_10, ?f11_10, ?f12_10, ?f13_10, ?f14_10, ?f15_10, trivial⟩
        case f0_10 =>
          intro g w' hx hd
          refine opOb_k (sh10Φ_keep _ _ _ _) rfl hx ?_
          refine op_run rfl ?_
          generalize hA : mkAct _ _ g = A
          have h0 : A.tmps[0]?.getD undef = .pointer (some ⟨wq, 0, none⟩) := by rw [← hA]; exact mkAct_out2 _ _ _ _ _ rfl rfl
          refine step_val (v := .pointer (some ⟨wq, 0, none⟩)) (w' := w') ?_ ⟨_, rfl, Ext.refl _ _, rfl⟩
          simp [execOp, h0, Result.andThen, go_sem]
        case f1_10 =>
          intro g w' hx hd
          refine opOb_k (sh10Φ_keep _ _ _ _) rfl hx ?_
          refine op_run rfl ?_
          have e111 : g 111 = .pointer (some ⟨wq, 0, none⟩) := hd ⟨0, .data⟩ (by simp) rfl
          generalize hA : mkAct _ _ g = A
          have h111 : A.tmps[111]?.getD undef = .pointer (some ⟨wq, 0, none⟩) := by rw [← hA, mkAct_in2 _ _ _ _ rfl rfl]; exact e111
          refine step_val (v := .pointer (some ⟨wq, 0, none⟩)) (w' := w') ?_ ⟨_, rfl, Ext.refl _ _, rfl⟩
          simp [execOp, h111, Result.andThen, go_sem]
        case f2_10 =>
          intro g w' hx hd
          refine opOb_k (sh10Φ_keep _ _ _ _) rfl hx ?_
          refine op_run rfl ?_
          have e112 : g 112 = .pointer (some ⟨wq, 0, none⟩) := hd ⟨1, .data⟩ (by simp) rfl
          generalize hA : mkAct _ _ g = A
          have h112 : A.tmps[112]?.getD undef = .pointer (some ⟨wq, 0, none⟩) := by rw [← hA, mkAct_in2 _ _ _ _ rfl rfl]; exact e112
          refine step_val (v := .pointer (some ⟨wq, 1, none⟩)) (w' := w') ?_ ⟨_, rfl, Ext.refl _ _, rfl⟩
          simp [execOp, h112, Result.andThen, go_sem]
        case f3_10 =>
          intro g w' hx hd
          refine opOb_k (sh10Φ_keep _ _ _ _) rfl hx ?_
          refine op_run rfl ?_
          have e113 : g 113 = .pointer (some ⟨wq, 1, none⟩) := hd ⟨2, .data⟩ (by simp) rfl
          generalize hA : mkAct _ _ g = A
          have h113 : A.tmps[113]?.getD undef = .pointer (some ⟨wq, 1, none⟩) := by rw [← hA, mkAct_in2 _ _ _ _ rfl rfl]; exact e113
          have c := c1 w' hx
          refine step_val (v := .pointer (some ⟨q, 0, none⟩)) (w' := w') ?_ ⟨_, rfl, Ext.refl _ _, rfl⟩
          simp [execOp, h113, c, Result.andThen, go_sem]
        case f4_10 =>
          intro g w' hx hd
          refine opOb_k (sh10Φ_keep _ _ _ _) rfl hx ?_
          refine op_run rfl ?_
          generalize hA : mkAct _ _ g = A
          have h0 : A.tmps[0]?.getD undef = .pointer (some ⟨wq, 0, none⟩) := by rw [← hA]; exact mkAct_out2 _ _ _ _ _ rfl rfl
          refine step_val (v := .pointer (some ⟨wq, 0, none⟩)) (w' := w') ?_ ⟨_, rfl, Ext.refl _ _, rfl⟩
          simp [execOp, h0, Result.andThen, go_sem]
        case f5_10 =>
          intro g w' hx hd
          refine opOb_k (sh10Φ_keep _ _ _ _) rfl hx ?_
          refine op_run rfl ?_
          have e115 : g 115 = .pointer (some ⟨wq, 0, none⟩) := hd ⟨4, .data⟩ (by simp) rfl
          generalize hA : mkAct _ _ g = A
          have h115 : A.tmps[115]?.getD undef = .pointer (some ⟨wq, 0, none⟩) := by rw [← hA, mkAct_in2 _ _ _ _ rfl rfl]; exact e115
          refine step_val (v := .pointer (some ⟨wq, 0, none⟩)) (w' := w') ?_ ⟨_, rfl, Ext.refl _ _, rfl⟩
          simp [execOp, h115, Result.andThen, go_sem]
        case f6_10 =>
          intro g w' hx hd
          refine opOb_k (sh10Φ_keep _ _ _ _) rfl hx ?_
          refine op_run rfl ?_
          have e116 : g 116 = .pointer (some ⟨wq, 0, none⟩) := hd ⟨5, .data⟩ (by simp) rfl
          generalize hA : mkAct _ _ g = A
          have h116 : A.tmps[116]?.getD undef = .pointer (some ⟨wq, 0, none⟩) := by rw [← hA, mkAct_in2 _ _ _ _ rfl rfl]; exact e116
          refine step_val (v := .pointer (some ⟨wq, 2, none⟩)) (w' := w') ?_ ⟨_, rfl, Ext.refl _ _, rfl⟩
          simp [execOp, h116, Result.andThen, go_sem]
        case f7_10 =>
          intro g w' hx hd
          refine opOb_k (sh10Φ_keep _ _ _ _) rfl hx ?_
          refine op_run rfl ?_
          have e117 : g 117 = .pointer (some ⟨wq, 2, none⟩) := hd ⟨6, .data⟩ (by simp) rfl
          generalize hA : mkAct _ _ g = A
          have h117 : A.tmps[117]?.getD undef = .pointer (some ⟨wq, 2, none⟩) := by rw [← hA, mkAct_in2 _ _ _ _ rfl rfl]; exact e117
          have c := c2 w' hx
          refine step_val (v := .int .i64 first) (w' := w') ?_ ⟨_, rfl, Ext.refl _ _, rfl⟩
          simp [execOp, h117, c, Result.andThen, go_sem]
        case f8_10 =>
          intro g w' hx hd
          refine opOb_k (sh10Φ_keep _ _ _ _) rfl hx ?_
          refine op_run rfl ?_
          have e118 : g 118 = .int .i64 first := hd ⟨7, .data⟩ (by simp) rfl
          generalize hA : mkAct _ _ g = A
          have h118 : A.tmps[118]?.getD undef = .int .i64 first := by rw [← hA, mkAct_in2 _ _ _ _ rfl rfl]; exact e118
          refine step_val (v := .int .i64 (first - 1)) (w' := w') ?_ ⟨_, rfl, Ext.refl _ _, rfl⟩
          simp [execOp, h118, Result.andThen, go_sem]
          exact IntWalk.i64_in _ ⟨by omega, by omega⟩
        case f9_10 =>
          intro g w' hx hd
          refine opOb_k (sh10Φ_keep _ _ _ _) rfl hx ?_
          refine op_run rfl ?_
          have e114 : g 114 = .pointer (some ⟨q, 0, none⟩) := hd ⟨3, .data⟩ (by simp) rfl
          have e119 : g 119 = .int .i64 (first - 1) := hd ⟨8, .data⟩ (by simp) rfl
          generalize hA : mkAct _ _ g = A
          have h114 : A.tmps[114]?.getD undef = .pointer (some ⟨q, 0, none⟩) := by rw [← hA, mkAct_in2 _ _ _ _ rfl rfl]; exact e114
          have h119 : A.tmps[119]?.getD undef = .int .i64 (first - 1) := by rw [← hA, mkAct_in2 _ _ _ _ rfl rfl]; exact e119
          refine float_k (fun K hK => ?_)
          go_simp
          refine (kA w' hx).mono ?_
          rintro e w2 ⟨rfl, hx2⟩
          exact hK (.tuple #[.agg #[.int .i64 0, .int .i64 0, .string ⟨#[]⟩], .int .i64 0]) w2 hx2 rfl
        case f10_10 =>
          intro g w' hx hd
          refine opOb_k (sh10Φ_keep _ _ _ _) rfl hx ?_
          refine op_run rfl ?_
          have e120 : g 120 = .tuple #[.agg #[.int .i64 0, .int .i64 0, .string ⟨#[]⟩], .int .i64 0] := hd ⟨9, .data⟩ (by simp) rfl
          generalize hA : mkAct _ _ g = A
          have h120 : A.tmps[120]?.getD undef = .tuple #[.agg #[.int .i64 0, .int .i64 0, .string ⟨#[]⟩], .int .i64 0] := by rw [← hA, mkAct_in2 _ _ _ _ rfl rfl]; exact e120
          refine step_val (v := .tuple #[.agg #[.int .i64 0, .int .i64 0, .string ⟨#[]⟩], .int .i64 0]) (w' := w') ?_ ⟨_, rfl, Ext.refl _ _, rfl⟩
          simp [execOp, h120, Result.andThen, go_sem]
        case f11_10 =>
          intro g w' hx hd
          refine opOb_k (sh10Φ_keep _ _ _ _) rfl hx ?_
          refine op_run rfl ?_
          have e110 : g 110 = .tuple #[.agg #[.int .i64 0, .int .i64 0, .string ⟨#[]⟩], .int .i64 0] := hd ⟨10, .data⟩ (by simp) rfl
          generalize hA : mkAct _ _ g = A
          have h110 : A.tmps[110]?.getD undef = .tuple #[.agg #[.int .i64 0, .int .i64 0, .string ⟨#[]⟩], .int .i64 0] := by rw [← hA, mkAct_in2 _ _ _ _ rfl rfl]; exact e110
          refine step_val (v := .agg #[.int .i64 0, .int .i64 0, .string ⟨#[]⟩]) (w' := w') ?_ ⟨_, rfl, Ext.refl _ _, rfl⟩
          simp [execOp, h110, Result.andThen, go_sem]
        case f12_10 =>
          intro g w' hx hd
          refine opOb_k (sh10Φ_keep _ _ _ _) rfl hx ?_
          refine op_run rfl ?_
          have e110 : g 110 = .tuple #[.agg #[.int .i64 0, .int .i64 0, .string ⟨#[]⟩], .int .i64 0] := hd ⟨10, .data⟩ (by simp) rfl
          generalize hA : mkAct _ _ g = A
          have h110 : A.tmps[110]?.getD undef = .tuple #[.agg #[.int .i64 0, .int .i64 0, .string ⟨#[]⟩], .int .i64 0] := by rw [← hA, mkAct_in2 _ _ _ _ rfl rfl]; exact e110
          refine step_val (v := .int .i64 0) (w' := w') ?_ ⟨_, rfl, Ext.refl _ _, rfl⟩
          simp [execOp, h110, Result.andThen, go_sem]
        case f13_10 =>
          intro g w' hx hd
          refine opOb_k (sh10Φ_keep _ _ _ _) rfl hx ?_
          refine op_run rfl ?_
          generalize hA : mkAct _ _ g = A
          refine step_val (v := .pointer (some ⟨w'.heap.size, 0, none⟩)) (w' := w'.alloc (.cells #[.int .i64 0, .int .i64 0, .string ⟨#[]⟩] 37)) ?_ ⟨_, rfl, (Ext.refl _ _).alloc _, ⟨w'.heap.size, [.int .i64 0, .int .i64 0, .string ⟨#[]⟩], rfl, hx.size, rfl, Blk.new w' 37 #[.int .i64 0, .int .i64 0, .string ⟨#[]⟩]⟩⟩
          simp [execOp, Result.andThen, go_sem]
        case f14_10 =>
          intro g w' hx hd
          refine op_run rfl ?_
          obtain ⟨G, cs, eG, hG, hl, hB⟩ := hd ⟨13, .data⟩ (by simp) rfl
          have eV : g 121 = .agg #[.int .i64 0, .int .i64 0, .string ⟨#[]⟩] := hd ⟨11, .data⟩ (by simp) rfl
          unfold StepK
          generalize hA : mkAct _ _ g = A
          have h5 : A.tmps[7]?.getD undef = .pointer (some ⟨G, 0, none⟩) := by rw [← hA, mkAct_in2 _ _ _ _ rfl rfl]; exact eG
          have h6 : A.tmps[121]?.getD undef = .agg #[.int .i64 0, .int .i64 0, .string ⟨#[]⟩] := by rw [← hA, mkAct_in2 _ _ _ _ rfl rfl]; exact eV
          obtain ⟨z0, z1, z2, rfl⟩ : ∃ z0 z1 z2, cs = [z0, z1, z2] := list3 hl
          have c0 : w'.cell? ⟨G, 0, none⟩ = some z0 := Blk.c hB 0
          have c1 : w'.cell? ⟨G, 1, none⟩ = some z1 := Blk.c hB 1
          have c2 : w'.cell? ⟨G, 2, none⟩ = some z2 := Blk.c hB 2
          have cf := fun j => Blk.f hB j
          have cl := Blk.lt hB
          have hB2 : Blk (((w'.setCell ⟨G, 0, none⟩ (.int .i64 0)).setCell ⟨G, 1, none⟩ (.int .i64 0)).setCell ⟨G, 2, none⟩ (.string ⟨#[]⟩)) G 37 [.int .i64 0, .int .i64 0, .string ⟨#[]⟩] := (Blk.set (Blk.set (Blk.set hB 0 (.int .i64 0)) 1 (.int .i64 0)) 2 (.string ⟨#[]⟩))
          have hE2 : Ext [G] w' (((w'.setCell ⟨G, 0, none⟩ (.int .i64 0)).setCell ⟨G, 1, none⟩ (.int .i64 0)).setCell ⟨G, 2, none⟩ (.string ⟨#[]⟩)) := ((((Ext.refl [G] w').setCell (p := ⟨G, 0, none⟩) (.inl (by simp)) (.int .i64 0)).setCell (p := ⟨G, 1, none⟩) (.inl (by simp)) (.int .i64 0)).setCell (p := ⟨G, 2, none⟩) (.inl (by simp)) (.string ⟨#[]⟩))
          refine step_skip (w' := (((w'.setCell ⟨G, 0, none⟩ (.int .i64 0)).setCell ⟨G, 1, none⟩ (.int .i64 0)).setCell ⟨G, 2, none⟩ (.string ⟨#[]⟩))) ?_ ⟨_, rfl, hx.trans hE2 (fun z hz => .inr (by simp at hz; subst hz; exact hG)), ⟨G, eG, hB2⟩, fun j u x hj h => sh10Φ_set _ _ _ _ j u x _ _ hj h rfl hE2 hB2⟩
          simp [execOp, h5, h6, c0, c1, c2, cf, cl, Result.andThen, go_sem]
        case f15_10 =>
          intro g w' hx hd
          refine opOb_k (sh10Φ_keep _ _ _ _) rfl hx ?_
          refine op_run rfl ?_
          have e122 : g 122 = .int .i64 0 := hd ⟨12, .data⟩ (by simp) rfl
          generalize hA : mkAct _ _ g = A
          have h122 : A.tmps[122]?.getD undef = .int .i64 0 := by rw [← hA, mkAct_in2 _ _ _ _ rfl rfl]; exact e122
          refine step_val (v := .int .i64 0) (w' := w') ?_ ⟨_, rfl, Ext.refl _ _, rfl⟩
          simp [execOp, h122, Result.andThen, go_sem]
      intro g wn hxn hd
      obtain ⟨G, eG, hBG⟩ := hd 14 (by decide)
      replace eG : g 7 = .pointer (some ⟨G, 0, none⟩) := eG
      have e8 : g 8 = .int .i64 0 := hd 15 (by decide)
      have HX10 := Hid.of (hX.out.then0 hxn)
      clear hd c1 c2 hc3 kA hxn hBG
      unfold mkAct; simp only [List.zipIdx_cons, List.zipIdx_nil, List.map_cons, List.map_nil, Nat.zero_add, Nat.reduceAdd, List.contains_cons, List.contains_nil, Nat.reduceBEq, Bool.or_false, Bool.or_true, ↓reduceIte, Bool.false_eq_true]
      rw [eG, e8]
      clear e8 eG
      obtain ⟨w10, hw10⟩ : ∃ x, x = wn := ⟨_, rfl⟩
      rw [← hw10] at HX10 ⊢
      clear hw10
      have hc1 := fun w' (hx : Ext [] w10 w') => Blk.c (HS.out.keep (HX10.out.then0 hx)).blk 1
      have hc2 := fun w' (hx : Ext [] w10 w') => Blk.c (HS.out.keep (HX10.out.then0 hx)).blk 2
      have hc3 := fun w' (hx : Ext [] w10 w') => Blk.c (HS.out.keep (HX10.out.then0 hx)).blk 3
      simp only [List.getElem?_cons_zero, List.getElem?_cons_succ] at hc1 hc2 hc3
      have c1 := hc1
      have c2 := hc2
      have c3 := hc3
      clear hc1 hc2 hc3
      have kB : ∀ w' (hx : Ext [] w10 w'), Calls Try.prog 18 #[.pointer (some ⟨q, 0, none⟩), .int .i64 (first + (j : Int))] w' fun e w'' => e = .returned (.tuple #[.agg #[.int .i64 0, .int .i64 0, .string ⟨#[]⟩], .int .i64 0]) ∧ Ext [] w' w'' := fun w' hx => (HS.out.keep (HX10.out.then0 hx)).readg0 (first + (j : Int)) (by have := HL.out; omega)
      go_upto_region 11 with fail
      refine wp_region_stepsk [124, 125, 126, 127, 128, 129, 130, 131, 132, 133, 134, 135, 136, 137, 138, 123, 139, 140, 9, 10] (fun i => if i = 19 then 18 else i) (sh11Φ w10 wq q first a j cap) (by kernel_rfl) (by kernel_rfl) (by kernel_rfl) ?hno_11 (by kernel_rfl) (by kernel_rfl) ?hst_11 ?hend_11
      case hno_11 =>
        intro i v v' x w' _ hi h
        by_cases e : i = 19
        · subst e; exact h
        · rw [if_neg e] at hi; exact absurd rfl hi
      case hst_11 =>
        refine ⟨?f0_11, ?f1_11, ?f2_11, ?f3_11, ?f4_11, ?f5_11, ?f6_11, ?f7_11, ?f8_11, ?f9_11, ?f10_11, ?f11_11, ?f12_11, ?f13_11, ?f14_11, ?f15_11, ?f16_11, ?f17_11, ?f18_11, ?f19_11, ?f20_11, trivial⟩
        case f0_11 =>
          intro g w' hx hd
          refine opOb_k (sh11Φ_keep _ _ _ _ _ _ _) rfl hx ?_
          refine op_run rfl ?_
          generalize hA : mkAct _ _ g = A
          have h0 : A.tmps[0]?.getD undef = .pointer (some ⟨wq, 0, none⟩) := by rw [← hA]; exact mkAct_out2 _ _ _ _ _ rfl rfl
          refine step_val (v := .pointer (some ⟨wq, 0, none⟩)) (w' := w') ?_ ⟨_, rfl, Ext.refl _ _, rfl⟩
          simp [execOp, h0, Result.andThen, go_sem]
        case f1_11 =>
          intro g w' hx hd
          refine opOb_k (sh11Φ_keep _ _ _ _ _ _ _) rfl hx ?_
          refine op_run rfl ?_
          have e124 : g 124 = .pointer (some ⟨wq, 0, none⟩) := hd ⟨0, .data⟩ (by simp) rfl
          generalize hA : mkAct _ _ g = A
          have h124 : A.tmps[124]?.getD undef = .pointer (some ⟨wq, 0, none⟩) := by rw [← hA, mkAct_in2 _ _ _ _ rfl rfl]; exact e124
          refine step_val (v := .pointer (some ⟨wq, 0, none⟩)) (w' := w') ?_ ⟨_, rfl, Ext.refl _ _, rfl⟩
          simp [execOp, h124, Result.andThen, go_sem]
        case f2_11 =>
          intro g w' hx hd
          refine opOb_k (sh11Φ_keep _ _ _ _ _ _ _) rfl hx ?_
          refine op_run rfl ?_
          have e125 : g 125 = .pointer (some ⟨wq, 0, none⟩) := hd ⟨1, .data⟩ (by simp) rfl
          generalize hA : mkAct _ _ g = A
          have h125 : A.tmps[125]?.getD undef = .pointer (some ⟨wq, 0, none⟩) := by rw [← hA, mkAct_in2 _ _ _ _ rfl rfl]; exact e125
          refine step_val (v := .pointer (some ⟨wq, 1, none⟩)) (w' := w') ?_ ⟨_, rfl, Ext.refl _ _, rfl⟩
          simp [execOp, h125, Result.andThen, go_sem]
        case f3_11 =>
          intro g w' hx hd
          refine opOb_k (sh11Φ_keep _ _ _ _ _ _ _) rfl hx ?_
          refine op_run rfl ?_
          have e126 : g 126 = .pointer (some ⟨wq, 1, none⟩) := hd ⟨2, .data⟩ (by simp) rfl
          generalize hA : mkAct _ _ g = A
          have h126 : A.tmps[126]?.getD undef = .pointer (some ⟨wq, 1, none⟩) := by rw [← hA, mkAct_in2 _ _ _ _ rfl rfl]; exact e126
          have c := c1 w' hx
          refine step_val (v := .pointer (some ⟨q, 0, none⟩)) (w' := w') ?_ ⟨_, rfl, Ext.refl _ _, rfl⟩
          simp [execOp, h126, c, Result.andThen, go_sem]
        case f4_11 =>
          intro g w' hx hd
          refine opOb_k (sh11Φ_keep _ _ _ _ _ _ _) rfl hx ?_
          refine op_run rfl ?_
          generalize hA : mkAct _ _ g = A
          have h0 : A.tmps[0]?.getD undef = .pointer (some ⟨wq, 0, none⟩) := by rw [← hA]; exact mkAct_out2 _ _ _ _ _ rfl rfl
          refine step_val (v := .pointer (some ⟨wq, 0, none⟩)) (w' := w') ?_ ⟨_, rfl, Ext.refl _ _, rfl⟩
          simp [execOp, h0, Result.andThen, go_sem]
        case f5_11 =>
          intro g w' hx hd
          refine opOb_k (sh11Φ_keep _ _ _ _ _ _ _) rfl hx ?_
          refine op_run rfl ?_
          have e128 : g 128 = .pointer (some ⟨wq, 0, none⟩) := hd ⟨4, .data⟩ (by simp) rfl
          generalize hA : mkAct _ _ g = A
          have h128 : A.tmps[128]?.getD undef = .pointer (some ⟨wq, 0, none⟩) := by rw [← hA, mkAct_in2 _ _ _ _ rfl rfl]; exact e128
          refine step_val (v := .pointer (some ⟨wq, 0, none⟩)) (w' := w') ?_ ⟨_, rfl, Ext.refl _ _, rfl⟩
          simp [execOp, h128, Result.andThen, go_sem]
        case f6_11 =>
          intro g w' hx hd
          refine opOb_k (sh11Φ_keep _ _ _ _ _ _ _) rfl hx ?_
          refine op_run rfl ?_
          have e129 : g 129 = .pointer (some ⟨wq, 0, none⟩) := hd ⟨5, .data⟩ (by simp) rfl
          generalize hA : mkAct _ _ g = A
          have h129 : A.tmps[129]?.getD undef = .pointer (some ⟨wq, 0, none⟩) := by rw [← hA, mkAct_in2 _ _ _ _ rfl rfl]; exact e129
          refine step_val (v := .pointer (some ⟨wq, 2, none⟩)) (w' := w') ?_ ⟨_, rfl, Ext.refl _ _, rfl⟩
          simp [execOp, h129, Result.andThen, go_sem]
        case f7_11 =>
          intro g w' hx hd
          refine opOb_k (sh11Φ_keep _ _ _ _ _ _ _) rfl hx ?_
          refine op_run rfl ?_
          have e130 : g 130 = .pointer (some ⟨wq, 2, none⟩) := hd ⟨6, .data⟩ (by simp) rfl
          generalize hA : mkAct _ _ g = A
          have h130 : A.tmps[130]?.getD undef = .pointer (some ⟨wq, 2, none⟩) := by rw [← hA, mkAct_in2 _ _ _ _ rfl rfl]; exact e130
          have c := c2 w' hx
          refine step_val (v := .int .i64 first) (w' := w') ?_ ⟨_, rfl, Ext.refl _ _, rfl⟩
          simp [execOp, h130, c, Result.andThen, go_sem]
        case f8_11 =>
          intro g w' hx hd
          refine opOb_k (sh11Φ_keep _ _ _ _ _ _ _) rfl hx ?_
          refine op_run rfl ?_
          generalize hA : mkAct _ _ g = A
          have h0 : A.tmps[0]?.getD undef = .pointer (some ⟨wq, 0, none⟩) := by rw [← hA]; exact mkAct_out2 _ _ _ _ _ rfl rfl
          refine step_val (v := .pointer (some ⟨wq, 0, none⟩)) (w' := w') ?_ ⟨_, rfl, Ext.refl _ _, rfl⟩
          simp [execOp, h0, Result.andThen, go_sem]
        case f9_11 =>
          intro g w' hx hd
          refine opOb_k (sh11Φ_keep _ _ _ _ _ _ _) rfl hx ?_
          refine op_run rfl ?_
          have e132 : g 132 = .pointer (some ⟨wq, 0, none⟩) := hd ⟨8, .data⟩ (by simp) rfl
          generalize hA : mkAct _ _ g = A
          have h132 : A.tmps[132]?.getD undef = .pointer (some ⟨wq, 0, none⟩) := by rw [← hA, mkAct_in2 _ _ _ _ rfl rfl]; exact e132
          refine step_val (v := .pointer (some ⟨wq, 0, none⟩)) (w' := w') ?_ ⟨_, rfl, Ext.refl _ _, rfl⟩
          simp [execOp, h132, Result.andThen, go_sem]
        case f10_11 =>
          intro g w' hx hd
          refine opOb_k (sh11Φ_keep _ _ _ _ _ _ _) rfl hx ?_
          refine op_run rfl ?_
          have e133 : g 133 = .pointer (some ⟨wq, 0, none⟩) := hd ⟨9, .data⟩ (by simp) rfl
          generalize hA : mkAct _ _ g = A
          have h133 : A.tmps[133]?.getD undef = .pointer (some ⟨wq, 0, none⟩) := by rw [← hA, mkAct_in2 _ _ _ _ rfl rfl]; exact e133
          refine step_val (v := .pointer (some ⟨wq, 3, none⟩)) (w' := w') ?_ ⟨_, rfl, Ext.refl _ _, rfl⟩
          simp [execOp, h133, Result.andThen, go_sem]
        case f11_11 =>
          intro g w' hx hd
          refine opOb_k (sh11Φ_keep _ _ _ _ _ _ _) rfl hx ?_
          refine op_run rfl ?_
          have e134 : g 134 = .pointer (some ⟨wq, 3, none⟩) := hd ⟨10, .data⟩ (by simp) rfl
          generalize hA : mkAct _ _ g = A
          have h134 : A.tmps[134]?.getD undef = .pointer (some ⟨wq, 3, none⟩) := by rw [← hA, mkAct_in2 _ _ _ _ rfl rfl]; exact e134
          have c := c3 w' hx
          refine step_val (v := .slice a j cap) (w' := w') ?_ ⟨_, rfl, Ext.refl _ _, rfl⟩
          simp [execOp, h134, c, Result.andThen, go_sem]
        case f12_11 =>
          intro g w' hx hd
          refine opOb_k (sh11Φ_keep _ _ _ _ _ _ _) rfl hx ?_
          refine op_run rfl ?_
          have e135 : g 135 = .slice a j cap := hd ⟨11, .data⟩ (by simp) rfl
          generalize hA : mkAct _ _ g = A
          have h135 : A.tmps[135]?.getD undef = .slice a j cap := by rw [← hA, mkAct_in2 _ _ _ _ rfl rfl]; exact e135
          refine step_val (v := .int .i64 (j)) (w' := w') ?_ ⟨_, rfl, Ext.refl _ _, rfl⟩
          simp [execOp, h135, Result.andThen, go_sem]
        case f13_11 =>
          intro g w' hx hd
          refine opOb_k (sh11Φ_keep _ _ _ _ _ _ _) rfl hx ?_
          refine op_run rfl ?_
          have e131 : g 131 = .int .i64 first := hd ⟨7, .data⟩ (by simp) rfl
          have e136 : g 136 = .int .i64 (j) := hd ⟨12, .data⟩ (by simp) rfl
          generalize hA : mkAct _ _ g = A
          have h131 : A.tmps[131]?.getD undef = .int .i64 first := by rw [← hA, mkAct_in2 _ _ _ _ rfl rfl]; exact e131
          have h136 : A.tmps[136]?.getD undef = .int .i64 (j) := by rw [← hA, mkAct_in2 _ _ _ _ rfl rfl]; exact e136
          refine step_val (v := .int .i64 (first + (j : Int))) (w' := w') ?_ ⟨_, rfl, Ext.refl _ _, rfl⟩
          simp [execOp, h131, h136, Result.andThen, go_sem]
          exact IntWalk.i64_in _ ⟨by omega, by omega⟩
        case f14_11 =>
          intro g w' hx hd
          refine opOb_k (sh11Φ_keep _ _ _ _ _ _ _) rfl hx ?_
          refine op_run rfl ?_
          have e127 : g 127 = .pointer (some ⟨q, 0, none⟩) := hd ⟨3, .data⟩ (by simp) rfl
          have e137 : g 137 = .int .i64 (first + (j : Int)) := hd ⟨13, .data⟩ (by simp) rfl
          generalize hA : mkAct _ _ g = A
          have h127 : A.tmps[127]?.getD undef = .pointer (some ⟨q, 0, none⟩) := by rw [← hA, mkAct_in2 _ _ _ _ rfl rfl]; exact e127
          have h137 : A.tmps[137]?.getD undef = .int .i64 (first + (j : Int)) := by rw [← hA, mkAct_in2 _ _ _ _ rfl rfl]; exact e137
          refine float_k (fun K hK => ?_)
          go_simp
          refine (kB w' hx).mono ?_
          rintro e w2 ⟨rfl, hx2⟩
          exact hK (.tuple #[.agg #[.int .i64 0, .int .i64 0, .string ⟨#[]⟩], .int .i64 0]) w2 hx2 rfl
        case f15_11 =>
          intro g w' hx hd
          refine opOb_k (sh11Φ_keep _ _ _ _ _ _ _) rfl hx ?_
          refine op_run rfl ?_
          have e138 : g 138 = .tuple #[.agg #[.int .i64 0, .int .i64 0, .string ⟨#[]⟩], .int .i64 0] := hd ⟨14, .data⟩ (by simp) rfl
          generalize hA : mkAct _ _ g = A
          have h138 : A.tmps[138]?.getD undef = .tuple #[.agg #[.int .i64 0, .int .i64 0, .string ⟨#[]⟩], .int .i64 0] := by rw [← hA, mkAct_in2 _ _ _ _ rfl rfl]; exact e138
          refine step_val (v := .tuple #[.agg #[.int .i64 0, .int .i64 0, .string ⟨#[]⟩], .int .i64 0]) (w' := w') ?_ ⟨_, rfl, Ext.refl _ _, rfl⟩
          simp [execOp, h138, Result.andThen, go_sem]
        case f16_11 =>
          intro g w' hx hd
          refine opOb_k (sh11Φ_keep _ _ _ _ _ _ _) rfl hx ?_
          refine op_run rfl ?_
          have e123 : g 123 = .tuple #[.agg #[.int .i64 0, .int .i64 0, .string ⟨#[]⟩], .int .i64 0] := hd ⟨15, .data⟩ (by simp) rfl
          generalize hA : mkAct _ _ g = A
          have h123 : A.tmps[123]?.getD undef = .tuple #[.agg #[.int .i64 0, .int .i64 0, .string ⟨#[]⟩], .int .i64 0] := by rw [← hA, mkAct_in2 _ _ _ _ rfl rfl]; exact e123
          refine step_val (v := .agg #[.int .i64 0, .int .i64 0, .string ⟨#[]⟩]) (w' := w') ?_ ⟨_, rfl, Ext.refl _ _, rfl⟩
          simp [execOp, h123, Result.andThen, go_sem]
        case f17_11 =>
          intro g w' hx hd
          refine opOb_k (sh11Φ_keep _ _ _ _ _ _ _) rfl hx ?_
          refine op_run rfl ?_
          have e123 : g 123 = .tuple #[.agg #[.int .i64 0, .int .i64 0, .string ⟨#[]⟩], .int .i64 0] := hd ⟨15, .data⟩ (by simp) rfl
          generalize hA : mkAct _ _ g = A
          have h123 : A.tmps[123]?.getD undef = .tuple #[.agg #[.int .i64 0, .int .i64 0, .string ⟨#[]⟩], .int .i64 0] := by rw [← hA, mkAct_in2 _ _ _ _ rfl rfl]; exact e123
          refine step_val (v := .int .i64 0) (w' := w') ?_ ⟨_, rfl, Ext.refl _ _, rfl⟩
          simp [execOp, h123, Result.andThen, go_sem]
        case f18_11 =>
          intro g w' hx hd
          refine opOb_k (sh11Φ_keep _ _ _ _ _ _ _) rfl hx ?_
          refine op_run rfl ?_
          generalize hA : mkAct _ _ g = A
          refine step_val (v := .pointer (some ⟨w'.heap.size, 0, none⟩)) (w' := w'.alloc (.cells #[.int .i64 0, .int .i64 0, .string ⟨#[]⟩] 37)) ?_ ⟨_, rfl, (Ext.refl _ _).alloc _, ⟨w'.heap.size, [.int .i64 0, .int .i64 0, .string ⟨#[]⟩], rfl, hx.size, rfl, Blk.new w' 37 #[.int .i64 0, .int .i64 0, .string ⟨#[]⟩]⟩⟩
          simp [execOp, Result.andThen, go_sem]
        case f19_11 =>
          intro g w' hx hd
          refine op_run rfl ?_
          obtain ⟨G, cs, eG, hG, hl, hB⟩ := hd ⟨18, .data⟩ (by simp) rfl
          have eV : g 139 = .agg #[.int .i64 0, .int .i64 0, .string ⟨#[]⟩] := hd ⟨16, .data⟩ (by simp) rfl
          unfold StepK
          generalize hA : mkAct _ _ g = A
          have h5 : A.tmps[9]?.getD undef = .pointer (some ⟨G, 0, none⟩) := by rw [← hA, mkAct_in2 _ _ _ _ rfl rfl]; exact eG
          have h6 : A.tmps[139]?.getD undef = .agg #[.int .i64 0, .int .i64 0, .string ⟨#[]⟩] := by rw [← hA, mkAct_in2 _ _ _ _ rfl rfl]; exact eV
          obtain ⟨z0, z1, z2, rfl⟩ : ∃ z0 z1 z2, cs = [z0, z1, z2] := list3 hl
          have c0 : w'.cell? ⟨G, 0, none⟩ = some z0 := Blk.c hB 0
          have c1 : w'.cell? ⟨G, 1, none⟩ = some z1 := Blk.c hB 1
          have c2 : w'.cell? ⟨G, 2, none⟩ = some z2 := Blk.c hB 2
          have cf := fun j => Blk.f hB j
          have cl := Blk.lt hB
          have hB2 : Blk (((w'.setCell ⟨G, 0, none⟩ (.int .i64 0)).setCell ⟨G, 1, none⟩ (.int .i64 0)).setCell ⟨G, 2, none⟩ (.string ⟨#[]⟩)) G 37 [.int .i64 0, .int .i64 0, .string ⟨#[]⟩] := (Blk.set (Blk.set (Blk.set hB 0 (.int .i64 0)) 1 (.int .i64 0)) 2 (.string ⟨#[]⟩))
          have hE2 : Ext [G] w' (((w'.setCell ⟨G, 0, none⟩ (.int .i64 0)).setCell ⟨G, 1, none⟩ (.int .i64 0)).setCell ⟨G, 2, none⟩ (.string ⟨#[]⟩)) := ((((Ext.refl [G] w').setCell (p := ⟨G, 0, none⟩) (.inl (by simp)) (.int .i64 0)).setCell (p := ⟨G, 1, none⟩) (.inl (by simp)) (.int .i64 0)).setCell (p := ⟨G, 2, none⟩) (.inl (by simp)) (.string ⟨#[]⟩))
          refine step_skip (w' := (((w'.setCell ⟨G, 0, none⟩ (.int .i64 0)).setCell ⟨G, 1, none⟩ (.int .i64 0)).setCell ⟨G, 2, none⟩ (.string ⟨#[]⟩))) ?_ ⟨_, rfl, hx.trans hE2 (fun z hz => .inr (by simp at hz; subst hz; exact hG)), ⟨G, eG, hB2⟩, fun j u x hj h => sh11Φ_set _ _ _ _ _ _ _ j u x _ _ hj h rfl hE2 hB2⟩
          simp [execOp, h5, h6, c0, c1, c2, cf, cl, Result.andThen, go_sem]
        case f20_11 =>
          intro g w' hx hd
          refine opOb_k (sh11Φ_keep _ _ _ _ _ _ _) rfl hx ?_
          refine op_run rfl ?_
          have e140 : g 140 = .int .i64 0 := hd ⟨17, .data⟩ (by simp) rfl
          generalize hA : mkAct _ _ g = A
          have h140 : A.tmps[140]?.getD undef = .int .i64 0 := by rw [← hA, mkAct_in2 _ _ _ _ rfl rfl]; exact e140
          refine step_val (v := .int .i64 0) (w' := w') ?_ ⟨_, rfl, Ext.refl _ _, rfl⟩
          simp [execOp, h140, Result.andThen, go_sem]
      intro g wn hxn hd
      obtain ⟨G, eG, hBG⟩ := hd 19 (by decide)
      replace eG : g 9 = .pointer (some ⟨G, 0, none⟩) := eG
      have e10 : g 10 = .int .i64 0 := hd 20 (by decide)
      have HX11 := Hid.of (HX10.out.then0 hxn)
      clear hd c1 c2 c3 kB hxn hBG
      unfold mkAct; simp only [List.zipIdx_cons, List.zipIdx_nil, List.map_cons, List.map_nil, Nat.zero_add, Nat.reduceAdd, List.contains_cons, List.contains_nil, Nat.reduceBEq, Bool.or_false, Bool.or_true, ↓reduceIte, Bool.false_eq_true]
      rw [eG, e10]
      clear e10 eG
      obtain ⟨w11, hw11⟩ : ∃ x, x = wn := ⟨_, rfl⟩
      rw [← hw11] at HX11 ⊢
      clear hw11
      have hc1 := fun w' (hx : Ext [] w11 w') => Blk.c (HS.out.keep (HX11.out.then0 hx)).blk 1
      have hc2 := fun w' (hx : Ext [] w11 w') => Blk.c (HS.out.keep (HX11.out.then0 hx)).blk 2
      have hc3 := fun w' (hx : Ext [] w11 w') => Blk.c (HS.out.keep (HX11.out.then0 hx)).blk 3
      simp only [List.getElem?_cons_zero, List.getElem?_cons_succ] at hc1 hc2 hc3
      have c1 := hc1
      have c2 := hc2
      have c3 := hc3
      clear hc1 hc2 hc3
      have kZ := fun w' (hx : Ext [] w11 w') => (HS.out.keep (HX11.out.then0 hx)).term0
      rw [HL.out] at kZ
      go_upto_region 12 with fail
      refine wp_region_stepsg [141, 142, 143, 144, 145, 146, 147, 148, 149, 150, 151, 152, 153, 154, 155, 156, 157, 158, 159, 160, 161, 162, 163, 164, 2] (fun n y _ => match n with | 0 => y = .int .i64 0 | 1 => y = .bool true | 2 => y = .bool true | 3 => y = .int .i64 0 | 4 => y = .bool true | 5 => y = .bool true | 6 => y = .bool true | 7 => y = .pointer (some ⟨wq, 0, none⟩) | 8 => y = .pointer (some ⟨wq, 0, none⟩) | 9 => y = .pointer (some ⟨wq, 1, none⟩) | 10 => y = .pointer (some ⟨q, 0, none⟩) | 11 => y = .pointer (some ⟨wq, 0, none⟩) | 12 => y = .pointer (some ⟨wq, 0, none⟩) | 13 => y = .pointer (some ⟨wq, 2, none⟩) | 14 => y = .int .i64 first | 15 => y = .pointer (some ⟨wq, 0, none⟩) | 16 => y = .pointer (some ⟨wq, 0, none⟩) | 17 => y = .pointer (some ⟨wq, 3, none⟩) | 18 => y = .slice a j cap | 19 => y = .int .i64 (j) | 20 => y = .int .i64 (first + (j : Int)) | 21 => y = .int .i64 0 | 22 => y = .bool true | 23 => y = .bool true | 24 => y = .bool true | _ => True) (by kernel_rfl) (by kernel_rfl) (fun n y w1 w2 h hx => h) ?_ ?_
      · refine ⟨?f0_12, ?f1_12, ?f2_12, ?f3_12, ?f4_12, ?f5_12, ?f6_12, ?f7_12, ?f8_12, ?f9_12, ?f10_12, ?f11_12, ?f12_12, ?f13_12, ?f14_12, ?f15_12, ?f16_12, ?f17_12, ?f18_12, ?f19_12, ?f20_12, ?f21_12, ?f22_12, ?f23_12, ?f24_12, trivial⟩
        case f0_12 =>
          intro g w' hx hd
          refine op_run rfl ?_
          generalize hA : mkAct _ _ g = A
          have h8 : A.tmps[8]?.getD undef = .int .i64 0 := by rw [← hA]; exact mkAct_out2 _ _ _ _ _ rfl rfl
          refine step_val (v := .int .i64 0) (w' := w') ?_ ⟨_, rfl, Ext.refl _ _, rfl⟩
          simp [execOp, h8, Result.andThen, go_sem]
        case f1_12 =>
          intro g w' hx hd
          refine op_run rfl ?_
          have e141 : g 141 = .int .i64 0 := hd ⟨0, .data⟩ (by simp) rfl
          generalize hA : mkAct _ _ g = A
          have h141 : A.tmps[141]?.getD undef = .int .i64 0 := by rw [← hA, mkAct_in2 _ _ _ _ rfl rfl]; exact e141
          refine step_val (v := .bool true) (w' := w') ?_ ⟨_, rfl, Ext.refl _ _, rfl⟩
          simp [execOp, h141, Result.andThen, go_sem]
        case f2_12 =>
          intro g w' hx hd
          refine op_run rfl ?_
          have e142 : g 142 = .bool true := hd ⟨1, .data⟩ (by simp) rfl
          generalize hA : mkAct _ _ g = A
          have h142 : A.tmps[142]?.getD undef = .bool true := by rw [← hA, mkAct_in2 _ _ _ _ rfl rfl]; exact e142
          refine step_val (v := .bool true) (w' := w') ?_ ⟨_, rfl, Ext.refl _ _, rfl⟩
          simp [execOp, h142, Result.andThen, go_sem]
        case f3_12 =>
          intro g w' hx hd
          have eg : g 143 = .bool true := hd ⟨2, .guard⟩ (by simp) rfl
          refine op_yes rfl rfl rfl rfl eg ?_
          generalize hA : mkAct _ _ g = A
          have h10 : A.tmps[10]?.getD undef = .int .i64 0 := by rw [← hA]; exact mkAct_out2 _ _ _ _ _ rfl rfl
          refine step_val (v := .int .i64 0) (w' := w') ?_ ⟨_, rfl, Ext.refl _ _, rfl⟩
          simp [execOp, h10, Result.andThen, go_sem]
        case f4_12 =>
          intro g w' hx hd
          have eg : g 143 = .bool true := hd ⟨2, .guard⟩ (by simp) rfl
          refine op_yes rfl rfl rfl rfl eg ?_
          have e144 : g 144 = .int .i64 0 := hd ⟨3, .data⟩ (by simp) rfl
          generalize hA : mkAct _ _ g = A
          have h144 : A.tmps[144]?.getD undef = .int .i64 0 := by rw [← hA, mkAct_in2 _ _ _ _ rfl rfl]; exact e144
          refine step_val (v := .bool true) (w' := w') ?_ ⟨_, rfl, Ext.refl _ _, rfl⟩
          simp [execOp, h144, Result.andThen, go_sem]
        case f5_12 =>
          intro g w' hx hd
          refine op_run rfl ?_
          have e143 : g 143 = .bool true := hd ⟨2, .data⟩ (by simp) rfl
          have e145 : g 145 = .bool true := hd ⟨4, .data⟩ (by simp) rfl
          generalize hA : mkAct _ _ g = A
          have h143 : A.tmps[143]?.getD undef = .bool true := by rw [← hA, mkAct_in2 _ _ _ _ rfl rfl]; exact e143
          have h145 : A.tmps[145]?.getD undef = .bool true := by rw [← hA, mkAct_in2 _ _ _ _ rfl rfl]; exact e145
          refine step_val (v := .bool true) (w' := w') ?_ ⟨_, rfl, Ext.refl _ _, rfl⟩
          simp [execOp, h143, h145, Result.andThen, go_sem]
        case f6_12 =>
          intro g w' hx hd
          refine op_run rfl ?_
          have e146 : g 146 = .bool true := hd ⟨5, .data⟩ (by simp) rfl
          generalize hA : mkAct _ _ g = A
          have h146 : A.tmps[146]?.getD undef = .bool true := by rw [← hA, mkAct_in2 _ _ _ _ rfl rfl]; exact e146
          refine step_val (v := .bool true) (w' := w') ?_ ⟨_, rfl, Ext.refl _ _, rfl⟩
          simp [execOp, h146, Result.andThen, go_sem]
        case f7_12 =>
          intro g w' hx hd
          have eg : g 147 = .bool true := hd ⟨6, .guard⟩ (by simp) rfl
          refine op_yes rfl rfl rfl rfl eg ?_
          generalize hA : mkAct _ _ g = A
          have h0 : A.tmps[0]?.getD undef = .pointer (some ⟨wq, 0, none⟩) := by rw [← hA]; exact mkAct_out2 _ _ _ _ _ rfl rfl
          refine step_val (v := .pointer (some ⟨wq, 0, none⟩)) (w' := w') ?_ ⟨_, rfl, Ext.refl _ _, rfl⟩
          simp [execOp, h0, Result.andThen, go_sem]
        case f8_12 =>
          intro g w' hx hd
          have eg : g 147 = .bool true := hd ⟨6, .guard⟩ (by simp) rfl
          refine op_yes rfl rfl rfl rfl eg ?_
          have e148 : g 148 = .pointer (some ⟨wq, 0, none⟩) := hd ⟨7, .data⟩ (by simp) rfl
          generalize hA : mkAct _ _ g = A
          have h148 : A.tmps[148]?.getD undef = .pointer (some ⟨wq, 0, none⟩) := by rw [← hA, mkAct_in2 _ _ _ _ rfl rfl]; exact e148
          refine step_val (v := .pointer (some ⟨wq, 0, none⟩)) (w' := w') ?_ ⟨_, rfl, Ext.refl _ _, rfl⟩
          simp [execOp, h148, Result.andThen, go_sem]
        case f9_12 =>
          intro g w' hx hd
          have eg : g 147 = .bool true := hd ⟨6, .guard⟩ (by simp) rfl
          refine op_yes rfl rfl rfl rfl eg ?_
          have e149 : g 149 = .pointer (some ⟨wq, 0, none⟩) := hd ⟨8, .data⟩ (by simp) rfl
          generalize hA : mkAct _ _ g = A
          have h149 : A.tmps[149]?.getD undef = .pointer (some ⟨wq, 0, none⟩) := by rw [← hA, mkAct_in2 _ _ _ _ rfl rfl]; exact e149
          refine step_val (v := .pointer (some ⟨wq, 1, none⟩)) (w' := w') ?_ ⟨_, rfl, Ext.refl _ _, rfl⟩
          simp [execOp, h149, Result.andThen, go_sem]
        case f10_12 =>
          intro g w' hx hd
          have eg : g 147 = .bool true := hd ⟨6, .guard⟩ (by simp) rfl
          refine op_yes rfl rfl rfl rfl eg ?_
          have e150 : g 150 = .pointer (some ⟨wq, 1, none⟩) := hd ⟨9, .data⟩ (by simp) rfl
          generalize hA : mkAct _ _ g = A
          have h150 : A.tmps[150]?.getD undef = .pointer (some ⟨wq, 1, none⟩) := by rw [← hA, mkAct_in2 _ _ _ _ rfl rfl]; exact e150
          have c := c1 w' hx
          refine step_val (v := .pointer (some ⟨q, 0, none⟩)) (w' := w') ?_ ⟨_, rfl, Ext.refl _ _, rfl⟩
          simp [execOp, h150, c, Result.andThen, go_sem]
        case f11_12 =>
          intro g w' hx hd
          have eg : g 147 = .bool true := hd ⟨6, .guard⟩ (by simp) rfl
          refine op_yes rfl rfl rfl rfl eg ?_
          generalize hA : mkAct _ _ g = A
          have h0 : A.tmps[0]?.getD undef = .pointer (some ⟨wq, 0, none⟩) := by rw [← hA]; exact mkAct_out2 _ _ _ _ _ rfl rfl
          refine step_val (v := .pointer (some ⟨wq, 0, none⟩)) (w' := w') ?_ ⟨_, rfl, Ext.refl _ _, rfl⟩
          simp [execOp, h0, Result.andThen, go_sem]
        case f12_12 =>
          intro g w' hx hd
          have eg : g 147 = .bool true := hd ⟨6, .guard⟩ (by simp) rfl
          refine op_yes rfl rfl rfl rfl eg ?_
          have e152 : g 152 = .pointer (some ⟨wq, 0, none⟩) := hd ⟨11, .data⟩ (by simp) rfl
          generalize hA : mkAct _ _ g = A
          have h152 : A.tmps[152]?.getD undef = .pointer (some ⟨wq, 0, none⟩) := by rw [← hA, mkAct_in2 _ _ _ _ rfl rfl]; exact e152
          refine step_val (v := .pointer (some ⟨wq, 0, none⟩)) (w' := w') ?_ ⟨_, rfl, Ext.refl _ _, rfl⟩
          simp [execOp, h152, Result.andThen, go_sem]
        case f13_12 =>
          intro g w' hx hd
          have eg : g 147 = .bool true := hd ⟨6, .guard⟩ (by simp) rfl
          refine op_yes rfl rfl rfl rfl eg ?_
          have e153 : g 153 = .pointer (some ⟨wq, 0, none⟩) := hd ⟨12, .data⟩ (by simp) rfl
          generalize hA : mkAct _ _ g = A
          have h153 : A.tmps[153]?.getD undef = .pointer (some ⟨wq, 0, none⟩) := by rw [← hA, mkAct_in2 _ _ _ _ rfl rfl]; exact e153
          refine step_val (v := .pointer (some ⟨wq, 2, none⟩)) (w' := w') ?_ ⟨_, rfl, Ext.refl _ _, rfl⟩
          simp [execOp, h153, Result.andThen, go_sem]
        case f14_12 =>
          intro g w' hx hd
          have eg : g 147 = .bool true := hd ⟨6, .guard⟩ (by simp) rfl
          refine op_yes rfl rfl rfl rfl eg ?_
          have e154 : g 154 = .pointer (some ⟨wq, 2, none⟩) := hd ⟨13, .data⟩ (by simp) rfl
          generalize hA : mkAct _ _ g = A
          have h154 : A.tmps[154]?.getD undef = .pointer (some ⟨wq, 2, none⟩) := by rw [← hA, mkAct_in2 _ _ _ _ rfl rfl]; exact e154
          have c := c2 w' hx
          refine step_val (v := .int .i64 first) (w' := w') ?_ ⟨_, rfl, Ext.refl _ _, rfl⟩
          simp [execOp, h154, c, Result.andThen, go_sem]
        case f15_12 =>
          intro g w' hx hd
          have eg : g 147 = .bool true := hd ⟨6, .guard⟩ (by simp) rfl
          refine op_yes rfl rfl rfl rfl eg ?_
          generalize hA : mkAct _ _ g = A
          have h0 : A.tmps[0]?.getD undef = .pointer (some ⟨wq, 0, none⟩) := by rw [← hA]; exact mkAct_out2 _ _ _ _ _ rfl rfl
          refine step_val (v := .pointer (some ⟨wq, 0, none⟩)) (w' := w') ?_ ⟨_, rfl, Ext.refl _ _, rfl⟩
          simp [execOp, h0, Result.andThen, go_sem]
        case f16_12 =>
          intro g w' hx hd
          have eg : g 147 = .bool true := hd ⟨6, .guard⟩ (by simp) rfl
          refine op_yes rfl rfl rfl rfl eg ?_
          have e156 : g 156 = .pointer (some ⟨wq, 0, none⟩) := hd ⟨15, .data⟩ (by simp) rfl
          generalize hA : mkAct _ _ g = A
          have h156 : A.tmps[156]?.getD undef = .pointer (some ⟨wq, 0, none⟩) := by rw [← hA, mkAct_in2 _ _ _ _ rfl rfl]; exact e156
          refine step_val (v := .pointer (some ⟨wq, 0, none⟩)) (w' := w') ?_ ⟨_, rfl, Ext.refl _ _, rfl⟩
          simp [execOp, h156, Result.andThen, go_sem]
        case f17_12 =>
          intro g w' hx hd
          have eg : g 147 = .bool true := hd ⟨6, .guard⟩ (by simp) rfl
          refine op_yes rfl rfl rfl rfl eg ?_
          have e157 : g 157 = .pointer (some ⟨wq, 0, none⟩) := hd ⟨16, .data⟩ (by simp) rfl
          generalize hA : mkAct _ _ g = A
          have h157 : A.tmps[157]?.getD undef = .pointer (some ⟨wq, 0, none⟩) := by rw [← hA, mkAct_in2 _ _ _ _ rfl rfl]; exact e157
          refine step_val (v := .pointer (some ⟨wq, 3, none⟩)) (w' := w') ?_ ⟨_, rfl, Ext.refl _ _, rfl⟩
          simp [execOp, h157, Result.andThen, go_sem]
        case f18_12 =>
          intro g w' hx hd
          have eg : g 147 = .bool true := hd ⟨6, .guard⟩ (by simp) rfl
          refine op_yes rfl rfl rfl rfl eg ?_
          have e158 : g 158 = .pointer (some ⟨wq, 3, none⟩) := hd ⟨17, .data⟩ (by simp) rfl
          generalize hA : mkAct _ _ g = A
          have h158 : A.tmps[158]?.getD undef = .pointer (some ⟨wq, 3, none⟩) := by rw [← hA, mkAct_in2 _ _ _ _ rfl rfl]; exact e158
          have c := c3 w' hx
          refine step_val (v := .slice a j cap) (w' := w') ?_ ⟨_, rfl, Ext.refl _ _, rfl⟩
          simp [execOp, h158, c, Result.andThen, go_sem]
        case f19_12 =>
          intro g w' hx hd
          have eg : g 147 = .bool true := hd ⟨6, .guard⟩ (by simp) rfl
          refine op_yes rfl rfl rfl rfl eg ?_
          have e159 : g 159 = .slice a j cap := hd ⟨18, .data⟩ (by simp) rfl
          generalize hA : mkAct _ _ g = A
          have h159 : A.tmps[159]?.getD undef = .slice a j cap := by rw [← hA, mkAct_in2 _ _ _ _ rfl rfl]; exact e159
          refine step_val (v := .int .i64 (j)) (w' := w') ?_ ⟨_, rfl, Ext.refl _ _, rfl⟩
          simp [execOp, h159, Result.andThen, go_sem]
        case f20_12 =>
          intro g w' hx hd
          have eg : g 147 = .bool true := hd ⟨6, .guard⟩ (by simp) rfl
          refine op_yes rfl rfl rfl rfl eg ?_
          have e155 : g 155 = .int .i64 first := hd ⟨14, .data⟩ (by simp) rfl
          have e160 : g 160 = .int .i64 (j) := hd ⟨19, .data⟩ (by simp) rfl
          generalize hA : mkAct _ _ g = A
          have h155 : A.tmps[155]?.getD undef = .int .i64 first := by rw [← hA, mkAct_in2 _ _ _ _ rfl rfl]; exact e155
          have h160 : A.tmps[160]?.getD undef = .int .i64 (j) := by rw [← hA, mkAct_in2 _ _ _ _ rfl rfl]; exact e160
          refine step_val (v := .int .i64 (first + (j : Int))) (w' := w') ?_ ⟨_, rfl, Ext.refl _ _, rfl⟩
          simp [execOp, h155, h160, Result.andThen, go_sem]
          exact IntWalk.i64_in _ ⟨by omega, by omega⟩
        case f21_12 =>
          intro g w' hx hd
          have eg : g 147 = .bool true := hd ⟨6, .guard⟩ (by simp) rfl
          refine op_yes rfl rfl rfl rfl eg ?_
          have e151 : g 151 = .pointer (some ⟨q, 0, none⟩) := hd ⟨10, .data⟩ (by simp) rfl
          have e161 : g 161 = .int .i64 (first + (j : Int)) := hd ⟨20, .data⟩ (by simp) rfl
          generalize hA : mkAct _ _ g = A
          have h151 : A.tmps[151]?.getD undef = .pointer (some ⟨q, 0, none⟩) := by rw [← hA, mkAct_in2 _ _ _ _ rfl rfl]; exact e151
          have h161 : A.tmps[161]?.getD undef = .int .i64 (first + (j : Int)) := by rw [← hA, mkAct_in2 _ _ _ _ rfl rfl]; exact e161
          refine float_k (fun K hK => ?_)
          go_simp
          refine (kZ w' hx).mono ?_
          rintro e w2 ⟨rfl, hx2⟩
          exact hK (.int .i64 0) w2 hx2 rfl
        case f22_12 =>
          intro g w' hx hd
          have eg : g 147 = .bool true := hd ⟨6, .guard⟩ (by simp) rfl
          refine op_yes rfl rfl rfl rfl eg ?_
          have e162 : g 162 = .int .i64 0 := hd ⟨21, .data⟩ (by simp) rfl
          generalize hA : mkAct _ _ g = A
          have h162 : A.tmps[162]?.getD undef = .int .i64 0 := by rw [← hA, mkAct_in2 _ _ _ _ rfl rfl]; exact e162
          refine step_val (v := .bool true) (w' := w') ?_ ⟨_, rfl, Ext.refl _ _, rfl⟩
          simp [execOp, h162, Result.andThen, go_sem]
        case f23_12 =>
          intro g w' hx hd
          refine op_run rfl ?_
          have e147 : g 147 = .bool true := hd ⟨6, .data⟩ (by simp) rfl
          have e163 : g 163 = .bool true := hd ⟨22, .data⟩ (by simp) rfl
          generalize hA : mkAct _ _ g = A
          have h147 : A.tmps[147]?.getD undef = .bool true := by rw [← hA, mkAct_in2 _ _ _ _ rfl rfl]; exact e147
          have h163 : A.tmps[163]?.getD undef = .bool true := by rw [← hA, mkAct_in2 _ _ _ _ rfl rfl]; exact e163
          refine step_val (v := .bool true) (w' := w') ?_ ⟨_, rfl, Ext.refl _ _, rfl⟩
          simp [execOp, h147, h163, Result.andThen, go_sem]
        case f24_12 =>
          intro g w' hx hd
          refine op_run rfl ?_
          have e164 : g 164 = .bool true := hd ⟨23, .data⟩ (by simp) rfl
          generalize hA : mkAct _ _ g = A
          have h164 : A.tmps[164]?.getD undef = .bool true := by rw [← hA, mkAct_in2 _ _ _ _ rfl rfl]; exact e164
          refine step_val (v := .bool true) (w' := w') ?_ ⟨_, rfl, Ext.refl _ _, rfl⟩
          simp [execOp, h164, Result.andThen, go_sem]
      intro g wn hxn hd
      have e2 : g 2 = .bool true := hd 24 (by decide)
      have HX12 := Hid.of (HX11.out.then0 hxn)
      generalize hA : mkAct _ _ g = A
      have h2 : A.tmps.getD 2 undef = .bool true := by
        show A.eval (.tmp 2) = _
        rw [← hA, mkAct_in _ _ _ _ rfl rfl]; exact e2
      have hdf : A.defers = [] := by rw [← hA]; rfl
      clear hA hd e2 c1 c2 c3 kZ hxn
      go_wp2
      refine bodyPost_ret (results_tmp rfl _ _ _) hdf ?_
      rw [h2]
      exact ⟨rfl, HX12.out⟩
end Go.Proofs.Ytmjgbkepngeckaa
