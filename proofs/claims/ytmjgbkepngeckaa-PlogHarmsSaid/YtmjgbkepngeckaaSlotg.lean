/- slot.Get. -/
import Derived.Test.YtmjgbkepngeckaaSlot
namespace Go.Proofs.Ytmjgbkepngeckaa
open Go.RowKit
set_option linter.unusedVariables false

theorem takeR_len (n : Nat) (st : List UInt8 × Bool) : (takeR n st).2.1.length ≤ st.1.length := (take_len n st).2.2
theorem numR_len (most : Int) (st : List UInt8 × Bool) : (numR most st).2.1.length ≤ st.1.length := by
  unfold numR
  split
  · simp
  · exact takeR_len 6 st
def GetPost (s : List UInt8) (w : World) (e : Ending) (w' : World) : Prop := e = .returned (.tuple #[(getR s).val, .int .i64 (getS s)]) ∧ Ext [] w w'
theorem getPost (s : List UInt8) (w w' : World) {r : Rc} {n : Int} (hv : getR s = r) (hn : getS s = n) (hx : Ext [] w w') : GetPost s w (.returned (.tuple #[.agg #[.int .i64 r.kind, .int .i64 r.idx, .int .i64 r.term, str r.data], .int .i64 n])) w' := by
  subst hv; subst hn; exact ⟨rfl, hx⟩

set_option maxHeartbeats 1600000 in
theorem sget_any (s : List UInt8) (w : World) (hs : s.length ≤ 1000000) : Calls Try.prog 38 #[str s] w (GetPost s w) := by
  by_cases h0 : s = []
  · subst h0
    have HP := fun w' hx => getPost [] w w' (r := Rc.zero) (n := 0) rfl rfl hx
    go_enter Try.func38, Try.ntmps38
    go_wp2
    refine bodyPost_ret (v := .tuple #[.agg #[.int .i64 0, .int .i64 0, .int .i64 0, .string ⟨#[]⟩], .int .i64 0]) ?_ rfl (HP _ (by (repeat' (first | assumption | exact Ext.refl _ _ | apply Ext.drew | (refine Ext.alloc ?_ _) | (refine Ext.setCell ?_ (by first | (right; simp; done) | (right; have := hx.size; simp at this ⊢; omega) | (left; simp; done)) _) | (refine Ext.then0 ?_ hx) | (refine Ext.trans ?_ hx (by simp))))))
    simp [results, Try.results38, go_sem]
  · have e0 : s.isEmpty = false := by cases s; exact absurd rfl h0; rfl
    have HR : Hid (getS s = if opens s = true ∧ doneR (readRc (openB s)).2 = 0 then 1 else 2) := by show _ = _; rw [getS, if_neg h0]
    have hol : (openB s).length ≤ 1000000 := by
      unfold openB
      split
      · rw [List.length_drop]; omega
      · simp
    clear h0
    go_enter Try.func38, Try.ntmps38
    obtain ⟨q, hq⟩ : ∃ q, q = w.heap.size := ⟨_, rfl⟩
    go_wp2_with fail
    refine (open_any s _ (by omega)).mono ?_
    rintro e w1 ⟨rfl, hx⟩
    have hxw : Ext [] w w1 := ((Ext.refl _ _).alloc _).then0 hx
    have hr1 : ∃ v0 v1 v2 v3 : Value, w1.heap[q]? = some (.cells #[v0, v1, v2, v3] 39 (0, 0)) := by subst hq; exact ⟨_, _, _, _, hx.heap (by simp) (heap_alloc_new _ _)⟩
    have hq0 : w.heap.size ≤ q := by omega
    rw [← hq]
    obtain ⟨u, hu⟩ : ∃ u, u = openB s := ⟨_, rfl⟩
    obtain ⟨ok, hok⟩ : ∃ b, b = opens s := ⟨_, rfl⟩
    have HR2 : Hid (getS s = if ok = true ∧ doneR (readRc u).2 = 0 then 1 else 2) := by rw [hok, hu]; exact HR
    have HR3 : Hid (∀ r, getS s = 1 → (readRc u).1 = r → getR s = r) := by
      rw [hu]; intro r h1 h2; rw [getR, if_pos h1]; exact h2
    have HR4 : Hid (getS s = 2 → getR s = Rc.zero) := fun h => getR_zero (by omega)
    rw [← hu] at hol ⊢
    rw [← hok]
    clear hu hok HR hx hs e0 hq
    obtain ⟨v0, v1, v2, v3, hr1⟩ := hr1
    go_wp2_with fail
    refine (read_any u w1).mono ?_
    rintro e w2 ⟨rfl, h2, hx2⟩
    have hxw2 := hxw.then0 hx2
    have hr2 := hx2.heap (by simp) hr1
    have hb2 : q < w1.heap.size := (Array.getElem?_eq_some_iff.1 hr1).1
    have hb3 : w.heap.size ≤ w1.heap.size := hxw.size
    obtain ⟨b, hb⟩ : ∃ b, b = w1.heap.size := ⟨_, rfl⟩
    rw [← hb] at h2 hb2 hb3 ⊢
    clear hxw hx2 hr1 hb
    have hbq : q ∉ [b] := by simp; omega
    have hread : readRc u = (⟨(numR 281474976710655 (u, false)).1, (numR 281474976710655 (numR 281474976710655 (u, false)).2).1, (numR 281474976710655 (numR 281474976710655 (numR 281474976710655 (u, false)).2).2).1, (textR 488 (numR 281474976710655 (numR 281474976710655 (numR 281474976710655 (u, false)).2).2).2).1⟩, (textR 488 (numR 281474976710655 (numR 281474976710655 (numR 281474976710655 (u, false)).2).2).2).2) := rfl
    go_wp2_with fail
    refine (rnum_any b 281474976710655 (u, false) w2 h2 (by simp only; omega)).mono ?_
    rintro e w3 ⟨rfl, h3, hx3⟩
    have l3 := numR_len 281474976710655 (u, false)
    simp only at l3
    obtain ⟨n1, hn1⟩ : ∃ n, n = numR 281474976710655 (u, false) := ⟨_, rfl⟩
    rw [← hn1] at h3 l3 hread ⊢
    have hr3 := hx3.heap hbq hr2
    have hxw3 := hxw2.trans hx3 (by simp; omega)
    clear hn1 hx3 hr2 h2 hxw2
    go_wp2_with fail
    refine (rnum_any b 281474976710655 n1.2 w3 h3 (by omega)).mono ?_
    rintro e w4 ⟨rfl, h4, hx4⟩
    have l4 := numR_len 281474976710655 n1.2
    obtain ⟨n2, hn2⟩ : ∃ n, n = numR 281474976710655 n1.2 := ⟨_, rfl⟩
    rw [← hn2] at h4 l4 hread ⊢
    have hr4 := hx4.heap hbq hr3
    have hxw4 := hxw3.trans hx4 (by simp; omega)
    clear hn2 hx4 hr3 h3 hxw3
    go_wp2_with fail
    refine (rnum_any b 281474976710655 n2.2 w4 h4 (by omega)).mono ?_
    rintro e w5 ⟨rfl, h5, hx5⟩
    have l5 := numR_len 281474976710655 n2.2
    obtain ⟨n3, hn3⟩ : ∃ n, n = numR 281474976710655 n2.2 := ⟨_, rfl⟩
    rw [← hn3] at h5 l5 hread ⊢
    have hr5 := hx5.heap hbq hr4
    have hxw5 := hxw4.trans hx5 (by simp; omega)
    clear hn3 hx5 hr4 h4 hxw4
    go_wp2_with fail
    refine (rtext_any b 488 n3.2 w5 h5 (by omega)).mono ?_
    rintro e w6 ⟨rfl, h6, hx6⟩
    obtain ⟨n4, hn4⟩ : ∃ n, n = textR 488 n3.2 := ⟨_, rfl⟩
    rw [← hn4] at h6 hread ⊢
    have hr6 := hx6.heap hbq hr5
    have hxw6 := hxw5.trans hx6 (by simp; omega)
    clear hn4 hx6 hr5 h5 hxw5 l3 l4 l5
    obtain ⟨x1, hx1⟩ : ∃ x, x = n1.1 := ⟨_, rfl⟩
    obtain ⟨x2, hx2⟩ : ∃ x, x = n2.1 := ⟨_, rfl⟩
    obtain ⟨x3, hx3⟩ : ∃ x, x = n3.1 := ⟨_, rfl⟩
    obtain ⟨x4, hx4⟩ : ∃ x, x = n4.1 := ⟨_, rfl⟩
    obtain ⟨st, hst⟩ : ∃ x, x = n4.2 := ⟨_, rfl⟩
    rw [← hx1, ← hx2, ← hx3, ← hx4, ← hst] at hread
    rw [← hst] at h6
    rw [← hx1, ← hx2, ← hx3, ← hx4]
    have HP : Hid (∀ w', Ext [] w w' → (if ok = true ∧ doneR st = 0 then GetPost s w (.returned (.tuple #[.agg #[.int .i64 x1, .int .i64 x2, .int .i64 x3, str x4], .int .i64 1])) w' else GetPost s w (.returned (.tuple #[.agg #[.int .i64 0, .int .i64 0, .int .i64 0, str []], .int .i64 2])) w')) := by
      intro w' hx
      have e2 : (readRc u).2 = st := by rw [hread]
      have e1 : (readRc u).1 = ⟨x1, x2, x3, x4⟩ := by rw [hread]
      have hs2 := HR2.out
      rw [e2] at hs2
      split
      · rename_i hc
        rw [if_pos hc] at hs2
        exact getPost s w w' (HR3.out _ hs2 e1) hs2 hx
      · rename_i hc
        rw [if_neg hc] at hs2
        exact getPost s w w' (r := Rc.zero) (HR4.out hs2) hs2 hx
    clear HR2 HR3 HR4 hread hx1 hx2 hx3 hx4 hst n1 n2 n3 n4 hol
    have fz : ∀ j, w6.frozen? ⟨q, j, none⟩ = false := fun j => frozen_of_row w6 q j _ _ hr6
    have hb6 := h6.lt
    have hq6 : q < w6.heap.size := by omega
    have cc0 : w6.cell? ⟨q, 0, none⟩ = some v0 := by rw [cell_row hr6]; rfl
    have cc1 : w6.cell? ⟨q, 1, none⟩ = some v1 := by rw [cell_row hr6]; rfl
    have cc2 : w6.cell? ⟨q, 2, none⟩ = some v2 := by rw [cell_row hr6]; rfl
    have cc3 : w6.cell? ⟨q, 3, none⟩ = some v3 := by rw [cell_row hr6]; rfl
    cases ok with
    | false =>
      have HP2 : Hid (∀ w', Ext [] w w' → GetPost s w (.returned (.tuple #[.agg #[.int .i64 0, .int .i64 0, .int .i64 0, str []], .int .i64 2])) w') := fun w' hx => by have := HP.out w' hx; rwa [if_neg (by simp)] at this
      clear HP
      go_wp2
      refine bodyPost_ret (v := .tuple #[.agg #[.int .i64 0, .int .i64 0, .int .i64 0, .string ⟨#[]⟩], .int .i64 2]) ?_ (by rfl) (HP2.out _ ?_)
      · simp [results, Try.results38, go_sem, cc0, cc1, cc2, cc3, hq6]
      · exact (((((hxw6.setCell (.inr hq0) _).setCell (.inr hq0) _).setCell (.inr hq0) _).setCell (.inr hq0) _).alloc _)
    | true =>
      go_wp2_with fail
      refine (rdone_any b _ _ (h6.keep ((Ext.refl [] _).alloc _) (by simp))).mono ?_
      rintro e w7 ⟨rfl, rfl⟩
      by_cases hd : doneR st = 0
      · have HP2 : Hid (∀ w', Ext [] w w' → GetPost s w (.returned (.tuple #[.agg #[.int .i64 x1, .int .i64 x2, .int .i64 x3, str x4], .int .i64 1])) w') := fun w' hx => by have := HP.out w' hx; rwa [if_pos ⟨trivial, hd⟩] at this
        rw [hd]
        clear HP hd
        go_wp2
        refine bodyPost_ret (v := .tuple #[.agg #[.int .i64 x1, .int .i64 x2, .int .i64 x3, str x4], .int .i64 1]) ?_ (by rfl) (HP2.out _ ?_)
        · simp [results, Try.results38, go_sem, cc0, cc1, cc2, cc3, hq6]
        · exact (((((hxw6.setCell (.inr hq0) _).setCell (.inr hq0) _).setCell (.inr hq0) _).setCell (.inr hq0) _).alloc _)
      · have HP2 : Hid (∀ w', Ext [] w w' → GetPost s w (.returned (.tuple #[.agg #[.int .i64 0, .int .i64 0, .int .i64 0, str []], .int .i64 2])) w') := fun w' hx => by have := HP.out w' hx; rwa [if_neg (fun h => hd h.2)] at this
        clear HP
        have hd2 : doneR st = 2 := by unfold doneR at hd ⊢; split at hd <;> simp_all
        rw [hd2]
        clear hd hd2
        go_wp2
        refine bodyPost_ret (v := .tuple #[.agg #[.int .i64 0, .int .i64 0, .int .i64 0, .string ⟨#[]⟩], .int .i64 2]) ?_ (by rfl) (HP2.out _ ?_)
        · simp [results, Try.results38, go_sem, cc0, cc1, cc2, cc3, hq6]
        · exact (((((hxw6.setCell (.inr hq0) _).setCell (.inr hq0) _).setCell (.inr hq0) _).setCell (.inr hq0) _).alloc _)
end Go.Proofs.Ytmjgbkepngeckaa
