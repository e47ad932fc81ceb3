/- SlotApart: the walk. -/
import Derived.Test.YtpnfgkgloioddaaSlotd
namespace Go.Proofs.Ytpnfgkgloioddaa
open Go.RowKit
set_option linter.unusedVariables false

theorem apart_law (a b : Rc) : putE a ≠ 0 ∨ putE b ≠ 0 ∨ (putE a = 0 ∧ putE b = 0 ∧ (putV a = putV b ↔ a = b)) := by
  by_cases h1 : putE a = 0
  · by_cases h2 : putE b = 0
    · exact .inr (.inr ⟨h1, h2, put_inj h1 h2⟩)
    · exact .inr (.inl h2)
  · exact .inl h1
theorem putE_le (r : Rc) : -9223372036854775808 ≤ putE r ∧ putE r ≤ 9223372036854775807 := by
  rcases putE_cases r with h | h | h <;> omega

set_option maxHeartbeats 1600000 in
theorem apart_any {w : World} (a : Rc) (ha : a.wf) (b : Rc) (hb : b.wf) : Calls Try.prog 8 #[a.val, b.val] w fun e w' => e = .returned (.bool true) ∧ Ext [] w w' := by
  have pa := fun W => sput_any a W ha
  have pb := fun W => sput_any b W hb
  have HL : Hid (putE a ≠ 0 ∨ putE b ≠ 0 ∨ (putE a = 0 ∧ putE b = 0 ∧ (putV a = putV b ↔ a = b))) := apart_law a b
  obtain ⟨_, _, _, da⟩ := ha
  obtain ⟨_, _, _, db⟩ := hb
  obtain ⟨k1, i1, t1, d1⟩ := a
  obtain ⟨k2, i2, t2, d2⟩ := b
  simp only at da db
  unfold Rc.val at pa pb ⊢
  simp only at pa pb ⊢
  go_enter Try.func8, Try.ntmps8
  go_wp2_with fail
  refine (head4_any _).mono ?_
  rintro e w1 ⟨rfl, hx⟩
  have ra : RcAt w1 w.heap.size ⟨k1, i1, t1, d1⟩ := ((RcAt.new w k1 i1 t1 d1).keep ((Ext.refl _ _).alloc _)).keep hx
  have rb : RcAt w1 (w.heap.size + 1) ⟨k2, i2, t2, d2⟩ := by
    have h := (RcAt.new (w.alloc (.cells #[.int .i64 k1, .int .i64 i1, .int .i64 t1, .string ⟨d1.toArray⟩] 40)) k2 i2 t2 d2).keep hx
    rwa [show (w.alloc (.cells #[.int .i64 k1, .int .i64 i1, .int .i64 t1, .string ⟨d1.toArray⟩] 40)).heap.size = w.heap.size + 1 by simp] at h
  have hxw : Ext [] w w1 := (((Ext.refl _ _).alloc _).alloc _).then0 hx
  obtain ⟨q1, hq1⟩ : ∃ q, q = w.heap.size := ⟨_, rfl⟩
  obtain ⟨q2, hq2⟩ : ∃ q, q = w.heap.size + 1 := ⟨_, rfl⟩
  rw [← hq2] at rb ⊢
  rw [← hq1] at ra ⊢
  clear hx hq1 hq2
  have a3 := ra.c3
  have b3 := rb.c3
  have la := ra.lt
  have lb := rb.lt
  simp only at a3 b3
  by_cases h1 : 488 < d1.length
  · clear pa pb
    go_wp2
    go_ret
    exact ⟨rfl, hxw⟩
  by_cases h2 : 488 < d2.length
  · clear pa pb
    go_wp2
    go_ret
    exact ⟨rfl, hxw⟩
  have a0 := ra.c0
  have a1 := ra.c1
  have a2 := ra.c2
  simp only at a0 a1 a2
  go_wp2_with fail
  refine (pa _).mono ?_
  rintro e w2 ⟨rfl, hx2⟩
  clear a0 a1 a2 a3 b3
  replace ra := ra.keep hx2
  replace rb := rb.keep hx2
  replace hxw := hxw.then0 hx2
  have b0 := rb.c0
  have b1 := rb.c1
  have b2 := rb.c2
  have b3 := rb.c3
  simp only at b0 b1 b2 b3
  clear pa hx2 la lb
  go_wp2_with fail
  refine (pb _).mono ?_
  rintro e w3 ⟨rfl, hx3⟩
  clear b0 b1 b2 b3
  replace ra := ra.keep hx3
  replace rb := rb.keep hx3
  replace hxw := hxw.then0 hx3
  have a0 := ra.c0
  have a1 := ra.c1
  have a2 := ra.c2
  have a3 := ra.c3
  have b0 := rb.c0
  have b1 := rb.c1
  have b2 := rb.c2
  have b3 := rb.c3
  simp only at a0 a1 a2 a3 b0 b1 b2 b3
  clear pb hx3 ra rb h1 h2 da db
  rcases HL.out with h | h | ⟨h1, h2, h3⟩
  · clear HL
    generalize putE ⟨k1, i1, t1, d1⟩ = x at h ⊢
    go_wp2
    go_ret
    exact ⟨rfl, hxw⟩
  · clear HL
    generalize putE ⟨k1, i1, t1, d1⟩ = x
    generalize putE ⟨k2, i2, t2, d2⟩ = y at h ⊢
    by_cases hx0 : x = 0
    · go_wp2
      go_ret
      exact ⟨rfl, hxw⟩
    · clear h
      go_wp2
      go_ret
      exact ⟨rfl, hxw⟩
  · clear HL
    rw [h1, h2]
    clear h1 h2
    have h4 : Hid (putV ⟨k1, i1, t1, d1⟩ = putV ⟨k2, i2, t2, d2⟩ ↔ (⟨k1, i1, t1, d1⟩ : Rc) = ⟨k2, i2, t2, d2⟩) := h3
    clear h3
    generalize putV ⟨k1, i1, t1, d1⟩ = x at h4 ⊢
    generalize putV ⟨k2, i2, t2, d2⟩ = y at h4 ⊢
    go_wp2
    all_goals (
      refine bodyPost_ret (v := .bool true) ?_ (by rfl) ⟨rfl, hxw⟩
      have h5 := h4.out
      simp only [Rc.mk.injEq] at h5
      simp_all [results, Try.results8, go_sem])
end Go.Proofs.Ytpnfgkgloioddaa
