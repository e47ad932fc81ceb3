/- The helpers of the statements of layer 1: kind, lay, read. -/
import Derived.Test.YtoeccimbechfeaaReader
import Derived.Test.YtoeccimbechfeaaHead1
import Derived.Test.YtoeccimbechfeaaBits
namespace Go.Proofs.Ytoeccimbechfeaa
open Go.RowKit
set_option linter.unusedVariables false
attribute [local go_sem high] run_max2 run_min2
attribute [local go_sem] i64_and1 i64_and255 i64_and65535

/-- A part: its kind's number, its number, its text. -/
structure Part where
  k : Int
  n : Int
  s : List UInt8
def Part.cells (p : Part) : List Value := [.int .i64 p.k, .int .i64 p.n, str p.s]
abbrev Part.v (p : Part) : Value := .agg #[.int .i64 p.k, .int .i64 p.n, str p.s]
def kindZ (k : Int) : Int := k % 18446744073709551616 % 3
theorem kindZ_cases (k : Int) : kindZ k = 0 ∨ kindZ k = 1 ∨ kindZ k = 2 := by unfold kindZ; omega

set_option maxHeartbeats 400000 in
theorem kind_any (k n : Int) (s : List UInt8) (w : World) :
    Calls Try.prog 23 #[.agg #[.int .i64 k, .int .i64 n, str s]] w fun e w' => e = .returned (.int .i64 (kindZ k)) ∧ Ext [] w w' := by
  have h1 : IntKind.u64.wrap k = k % 18446744073709551616 := by simp [IntKind.wrap, IntKind.bits, IntKind.signed]
  have h2 : 0 ≤ k % 18446744073709551616 := by omega
  have h3 : 0 ≤ k % 18446744073709551616 % 3 ∧ k % 18446744073709551616 % 3 < 3 := by omega
  have HK : Hid (kindZ k = k % 18446744073709551616 % 3) := rfl
  go_enter Try.func23, Try.ntmps23
  go_wp2
  go_ret
  rw [HK.out]
  exact ⟨rfl, (Ext.refl _ _).alloc _⟩

/-- What is read where a part is asked for. -/
def readP (k : Int) (st : List UInt8 × Bool) : Part × (List UInt8 × Bool) :=
  if kindZ k = 0 then (⟨0, (numR 281474976710655 st).1, []⟩, (numR 281474976710655 st).2)
  else if kindZ k = 1 then (⟨1, 0, (textR 1000 st).1⟩, (textR 1000 st).2)
  else (⟨2, if (flagR st).1 then 1 else 0, []⟩, (flagR st).2)

set_option maxHeartbeats 800000 in
theorem readP_any (b : Nat) (k n : Int) (s : List UInt8) (st : List UInt8 × Bool) (w : World) (h : IsR w b st) (hs : st.1.length ≤ 1000000000000) :
    Calls Try.prog 30 #[.pointer (some ⟨b, 0, none⟩), .agg #[.int .i64 k, .int .i64 n, str s]] w fun e w' => e = .returned (readP k st).1.v ∧ IsR w' b (readP k st).2 ∧ Ext [b] w w' := by
  have hb := h.lt
  go_enter Try.func30, Try.ntmps30
  go_wp2_with fail
  refine (kind_any k n s _).mono ?_
  rintro e w1 ⟨rfl, hx1⟩
  have s1 : w.heap.size + 2 ≤ w1.heap.size := by have := hx1.size; simp at this; omega
  have s2 : w.heap.size < w1.heap.size := by omega
  have s3 : w.heap.size + 1 < w1.heap.size := by omega
  have b0 : Blk w1 w.heap.size 38 [.int .i64 k, .int .i64 n, str s] := ((Blk.new w _ _).alloc _).keep hx1 (by simp)
  have b1 : Blk w1 (w.heap.size + 1) 38 [.int .i64 0, .int .i64 0, str []] := (by simpa using Blk.new (w.alloc _) 38 #[.int .i64 0, .int .i64 0, str []] : Blk _ (w.heap.size + 1) _ _).keep hx1 (by simp)
  have hx2 : Ext [b] w w1 := (((Ext.refl [b] w).alloc _).alloc _).then0 hx1
  have h1 : IsR w1 b st := h.keep (((Ext.refl [] w).alloc _).alloc _ |>.then0 hx1) (by simp)
  have c0 := b0.c 0
  have c1 := b0.c 1
  have c2 := b0.c 2
  simp only [List.getElem?_cons_zero, List.getElem?_cons_succ] at c0 c1 c2
  clear hx1 h
  go_wp2_with fail
  refine (kind_any k n s _).mono ?_
  rintro e w2 ⟨rfl, hx3⟩
  have t1 : w1.heap.size < w2.heap.size := by have := hx3.size; simp at this; omega
  have t2 : w.heap.size + 1 < w2.heap.size := by omega
  have d2 : Blk w2 w1.heap.size 38 [.int .i64 (kindZ k), .int .i64 0, str []] := (Blk.new w1 _ #[.int .i64 (kindZ k), .int .i64 0, str []]).keep hx3 (by simp)
  have d1 : Blk w2 (w.heap.size + 1) 38 [.int .i64 0, .int .i64 0, str []] := (b1.alloc _).keep hx3 (by simp)
  have hx4 : Ext [b] w w2 := (hx2.alloc _).then0 hx3
  have h2 : IsR w2 b st := (h1.keep ((Ext.refl [] w1).alloc _ |>.then0 hx3) (by simp))
  have hb2 : b < w1.heap.size := h1.lt
  obtain ⟨q, hq⟩ : ∃ q, q = w1.heap.size := ⟨_, rfl⟩
  obtain ⟨r, hr⟩ : ∃ r, r = w.heap.size + 1 := ⟨_, rfl⟩
  rw [← hq] at t1 d2 hb2 ⊢
  rw [← hr] at d1 t2 s3 ⊢
  have hqr : q ≠ r := by omega
  have hbq : b ≠ q := by omega
  have hbr : b ≠ r := by omega
  have hnew : w.heap.size ≤ q ∧ w.heap.size ≤ r := by omega
  clear c0 c1 c2 b0 b1 hx2 hx3 h1 s1 s2 s3 hq hr hb hb2
  by_cases hk0 : kindZ k = 0
  · have HR : Hid (readP k st = (⟨0, (numR 281474976710655 st).1, []⟩, (numR 281474976710655 st).2)) := if_pos hk0
    rw [hk0] at d2 ⊢
    go_wp2_with fail
    refine (rnum_any b 281474976710655 st w2 h2 hs).mono ?_
    rintro e w3 ⟨rfl, h3, hx5⟩
    have hx6 : Ext [b] w w3 := hx4.trans hx5 (by simp)
    have e2 := d2.keep hx5 (by simp; omega)
    have e1 := d1.keep hx5 (by simp; omega)
    have u2 := e2.lt
    have u1 := e1.lt
    obtain ⟨x, hxx⟩ : ∃ x, x = (numR 281474976710655 st).1 := ⟨_, rfl⟩
    rw [← hxx] at HR ⊢
    have p0 := e2.c 0
    have p1 := e2.c 1
    have p2 := e2.c 2
    have g1 := e2.f 1
    have r0 := e1.c 0
    have r1 := e1.c 1
    have r2 := e1.c 2
    have k0 := e1.f 0
    have k1 := e1.f 1
    have k2 := e1.f 2
    simp only [List.getElem?_cons_zero, List.getElem?_cons_succ] at p0 p1 p2 r0 r1 r2
    clear hx4 hx5 d2 d1 h2 hk0 hxx t1 t2
    go_wp2
    refine bodyPost_ret (v := .agg #[.int .i64 0, .int .i64 x, str []]) (by simp [results, Try.results30, go_sem, *]) rfl ⟨by rw [HR.out], by rw [HR.out]; exact ((((h3.keep ((Ext.refl [q, r] w3).setCell (by simp) _) (by simp; omega)).keep ((Ext.refl [q, r] _).setCell (by simp) _) (by simp; omega)).keep ((Ext.refl [q, r] _).setCell (by simp) _) (by simp; omega)).keep ((Ext.refl [q, r] _).setCell (by simp) _) (by simp; omega)), ?_⟩
    exact (((hx6.setCell (by simp; omega) _).setCell (by simp; omega) _).setCell (by simp; omega) _).setCell (by simp; omega) _
  · have hk0' : (kindZ k == 0) = false := by simp [hk0]
    by_cases hk1 : kindZ k = 1
    · have HR : Hid (readP k st = (⟨1, 0, (textR 1000 st).1⟩, (textR 1000 st).2)) := by show _ = _; rw [readP, if_neg hk0, if_pos hk1]
      clear hk0 hk0'
      rw [hk1] at d2 ⊢
      go_wp2_with fail
      refine (rtext_any b 1000 st w2 h2 hs).mono ?_
      rintro e w3 ⟨rfl, h3, hx5⟩
      have hx6 : Ext [b] w w3 := hx4.trans hx5 (by simp)
      have e2 := d2.keep hx5 (by simp; omega)
      have e1 := d1.keep hx5 (by simp; omega)
      have u2 := e2.lt
      have u1 := e1.lt
      obtain ⟨x, hxx⟩ : ∃ x, x = (textR 1000 st).1 := ⟨_, rfl⟩
      rw [← hxx] at HR ⊢
      have p0 := e2.c 0
      have p1 := e2.c 1
      have p2 := e2.c 2
      have g1 := e2.f 2
      have r0 := e1.c 0
      have r1 := e1.c 1
      have r2 := e1.c 2
      have k0 := e1.f 0
      have k1 := e1.f 1
      have k2 := e1.f 2
      simp only [List.getElem?_cons_zero, List.getElem?_cons_succ] at p0 p1 p2 r0 r1 r2
      clear hx4 hx5 d2 d1 h2 hk1 hxx t1 t2
      go_wp2
      refine bodyPost_ret (v := .agg #[.int .i64 1, .int .i64 0, str x]) (by simp [results, Try.results30, go_sem, *]) rfl ⟨by rw [HR.out], by rw [HR.out]; exact ((((h3.keep ((Ext.refl [q, r] w3).setCell (by simp) _) (by simp; omega)).keep ((Ext.refl [q, r] _).setCell (by simp) _) (by simp; omega)).keep ((Ext.refl [q, r] _).setCell (by simp) _) (by simp; omega)).keep ((Ext.refl [q, r] _).setCell (by simp) _) (by simp; omega)), ?_⟩
      exact (((hx6.setCell (by simp; omega) _).setCell (by simp; omega) _).setCell (by simp; omega) _).setCell (by simp; omega) _
    · have hk1' : (kindZ k == 1) = false := by simp [hk1]
      have hk2 : kindZ k = 2 := by rcases kindZ_cases k with h | h | h; exact absurd h hk0; exact absurd h hk1; exact h
      have HR : Hid (readP k st = (⟨2, if (flagR st).1 then 1 else 0, []⟩, (flagR st).2)) := by show _ = _; rw [readP, if_neg hk0, if_neg hk1]
      clear hk0 hk1 hk0' hk1'
      rw [hk2] at d2 ⊢
      go_wp2_with fail
      refine (rflag_any b st w2 h2 hs).mono ?_
      rintro e w3 ⟨rfl, h3, hx5⟩
      have hx6 : Ext [b] w w3 := hx4.trans hx5 (by simp)
      have e2 := d2.keep hx5 (by simp; omega)
      have e1 := d1.keep hx5 (by simp; omega)
      have u2 := e2.lt
      have u1 := e1.lt
      obtain ⟨x, hxx⟩ : ∃ x, x = (flagR st).1 := ⟨_, rfl⟩
      rw [← hxx] at HR ⊢
      have p0 := e2.c 0
      have p1 := e2.c 1
      have p2 := e2.c 2
      have g1 := e2.f 1
      have r0 := e1.c 0
      have r1 := e1.c 1
      have r2 := e1.c 2
      have k0 := e1.f 0
      have k1 := e1.f 1
      have k2 := e1.f 2
      simp only [List.getElem?_cons_zero, List.getElem?_cons_succ] at p0 p1 p2 r0 r1 r2
      clear hx4 hx5 d2 d1 h2 hk2 hxx t1 t2
      cases x
      · go_wp2
        refine bodyPost_ret (v := .agg #[.int .i64 2, .int .i64 0, str []]) (by simp [results, Try.results30, go_sem, *]) rfl ⟨by rw [HR.out]; rfl, by rw [HR.out]; exact (((h3.keep ((Ext.refl [q, r] w3).setCell (by simp) _) (by simp; omega)).keep ((Ext.refl [q, r] _).setCell (by simp) _) (by simp; omega)).keep ((Ext.refl [q, r] _).setCell (by simp) _) (by simp; omega)), ?_⟩
        exact ((hx6.setCell (by simp; omega) _).setCell (by simp; omega) _).setCell (by simp; omega) _
      · go_wp2
        refine bodyPost_ret (v := .agg #[.int .i64 2, .int .i64 1, str []]) (by simp [results, Try.results30, go_sem, *]) rfl ⟨by rw [HR.out]; rfl, by rw [HR.out]; exact ((((h3.keep ((Ext.refl [q, r] w3).setCell (by simp) _) (by simp; omega)).keep ((Ext.refl [q, r] _).setCell (by simp) _) (by simp; omega)).keep ((Ext.refl [q, r] _).setCell (by simp) _) (by simp; omega)).keep ((Ext.refl [q, r] _).setCell (by simp) _) (by simp; omega)), ?_⟩
        exact (((hx6.setCell (by simp; omega) _).setCell (by simp; omega) _).setCell (by simp; omega) _).setCell (by simp; omega) _

theorem takeR_bad (n : Nat) : takeR n ([], true) = ([], ([], true)) := if_pos (.inl rfl)
theorem readP_bad (k : Int) : readP k ([], true) = (⟨kindZ k, 0, []⟩, ([], true)) := by
  rcases kindZ_cases k with h | h | h
  · rw [readP, if_pos h, h]; rfl
  · rw [readP, if_neg (by omega), if_pos h, h]; rfl
  · rw [readP, if_neg (by omega), if_neg (by omega), h]; rfl

theorem Rd.part1 {w : World} {e : TypeId} {g : Nat} (p : Part) (hg : w.heap.size = g := by simp) : Rd (w.alloc (.cells #[.int .i64 p.k, .int .i64 p.n, str p.s] e)) 3 (.slice (some ⟨g, 0, none⟩) 1 1) 1 ([p].flatMap Part.cells) :=
  Rd.litg #[.int .i64 p.k, .int .i64 p.n, str p.s] e 3 1 rfl (by unfold maxLen; omega) hg
end Go.Proofs.Ytoeccimbechfeaa
