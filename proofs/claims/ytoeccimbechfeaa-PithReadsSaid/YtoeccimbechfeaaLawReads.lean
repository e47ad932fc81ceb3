/- PithReads: the walk. -/
import Derived.Test.YtoeccimbechfeaaReadLaw
namespace Go.Proofs.Ytoeccimbechfeaa
open Go.RowKit
set_option linter.unusedVariables false
attribute [local go_sem high] run_max2 run_min2

theorem readPs_long {w0 : World} (l : List UInt8) (a : Option Addr) (len cap : Nat) (h : 200 < l.length ∨ 20 < len) :
    Calls Try.prog 11 #[str l, .slice a len cap] w0 fun e w' => e = .returned (.bool true) ∧ Ext [] w0 w' := by
  by_cases h3 : 200 < l.length
  · go_enter Try.func11, Try.ntmps11
    go_wp2_with fail
    refine (head1_any w0).mono ?_
    rintro e w1 ⟨rfl, hx⟩
    go_wp2
    go_ret
    exact ⟨rfl, hx⟩
  · have h20 : 20 < len := by omega
    clear h
    go_enter Try.func11, Try.ntmps11
    go_wp2_with fail
    refine (head1_any w0).mono ?_
    rintro e w1 ⟨rfl, hx⟩
    go_wp2
    go_ret
    exact ⟨rfl, hx⟩

set_option maxHeartbeats 1600000 in
theorem reads_any {w0 : World} (l : List UInt8) (_ : l.length ≤ maxLen) (a : Option Addr) (len cap : Nat) (ns : List Int) (hR : Rd w0 1 (.slice a len cap) len (ns.map (Value.int .i64))) (hwf : ∀ n ∈ ns, (Lit.int .i64 n).wf = true) :
    Calls Try.prog 11 #[str l, .slice a len cap] w0 fun e w' => e = .returned (.bool true) ∧ Ext [] w0 w' := by
  by_cases hlong : 200 < l.length ∨ 20 < len
  · exact readPs_long l a len cap hlong
  have hl3 : l.length ≤ 200 := by omega
  have hl10 : len ≤ 20 := by omega
  clear hlong hwf
  have hl : ns.length = len := by have := hR.len.2.2.2; simpa using this
  go_enter Try.func11, Try.ntmps11
  go_wp2_with fail
  refine (head1_any w0).mono ?_
  rintro e w1 ⟨rfl, hx⟩
  go_wp2_with fail
  refine (read_any l w1).mono ?_
  rintro e w2 ⟨rfl, h2, hx2⟩
  have hx3 : Ext [] w0 w2 := hx.then0 hx2
  have hg : w0.heap.size ≤ w1.heap.size := hx.size
  clear hx hx2
  obtain ⟨g, hgg⟩ : ∃ g, g = w1.heap.size := ⟨_, rfl⟩
  rw [← hgg] at h2 hg ⊢
  clear hgg
  go_wp2
  go_loopw [6, 25] (fun p i wr => ∃ (k at_ : Nat), k ≤ len ∧ i = .int .i64 k ∧ p = .int .i64 at_ ∧ at_ ≤ l.length ∧ IsR wr g (l.drop at_, false) ∧ Ext [] w0 wr) (fun _ i _ => len - (intOf i).toNat)
  case atStart => exact ⟨0, 0, by omega, rfl, rfl, by omega, h2, hx3⟩
  case round =>
    clear h2 hx3
    obtain ⟨k, at_, hk, rfl, rfl, hat, hr, hxr⟩ := hrel
    by_cases hlt : k < len
    · obtain ⟨b, off, rfl, hbw, hc⟩ := hR.view (by omega)
      have h1 := hxr.cell (p := ⟨b, off + k, none⟩) (by simp) (hc k (.int .i64 (ns.getD k 0)) (by simp [List.getD, show k < ns.length by omega]))
      obtain ⟨z, hz⟩ : ∃ z, z = ns.getD k 0 := ⟨_, rfl⟩
      rw [← hz] at h1
      clear hz hc hR hl
      go_wp2_with fail
      refine (readP_any g z 0 [] (l.drop at_, false) wr hr (by simp; omega)).mono ?_
      rintro e w4 ⟨rfl, h4, hx6⟩
      have hx7 : Ext [] w0 w4 := hxr.trans hx6 (by simpa using hg)
      have hgw := h4.lt
      rcases readP_sound z (l.drop at_) with hbad | ⟨s', hst, hs, hq⟩
      · -- an error
        rw [hbad] at h4
        obtain ⟨q, hqq⟩ : ∃ q, q = (readP z (l.drop at_, false)).1 := ⟨_, rfl⟩
        rw [← hqq]
        clear hqq hxr hx6 hr hbad h1
        go_wp2_with fail
        refine (rok_any g _ _ (h4.keep ((Ext.refl [] w4).alloc _) (by simp))).mono ?_
        rintro e w5 ⟨rfl, rfl⟩
        have h5 : IsR (w4.alloc (.cells #[.int .i64 q.k, .int .i64 q.n, str q.s] 38)) g ([], true) := h4.keep ((Ext.refl [] w4).alloc _) (by simp)
        have e1 : doneR ([], true) = 2 := by simp [doneR]
        have e2 : numR 9 ([], true) = (0, ([], true)) := by decide
        have e3 : textR 9 ([], true) = ([], ([], true)) := by decide
        have e4 : flagR ([], true) = (false, ([], true)) := by decide
        have hx8 : Ext [] w0 (w4.alloc (.cells #[.int .i64 q.k, .int .i64 q.n, str q.s] 38)) := hx7.alloc _
        clear h4 hx7
        go_wp2_with fail
        refine (rdone_any g _ _ h5).mono ?_
        rintro e w5 ⟨rfl, rfl⟩
        rw [e1]
        go_wp2_with fail
        refine (rnum_any g 9 _ _ h5 (by simp)).mono ?_
        rintro e w5 ⟨rfl, h6, hx9⟩
        have hx10 : Ext [] w0 w5 := hx8.trans hx9 (by simpa using hg)
        rw [e2] at h6 ⊢
        clear hx8 hx9 h5 e1 e2
        go_wp2_with fail
        refine (rtext_any g 9 _ _ h6 (by simp)).mono ?_
        rintro e w6 ⟨rfl, h7, hx11⟩
        have hx12 : Ext [] w0 w6 := hx10.trans hx11 (by simpa using hg)
        rw [e3] at h7 ⊢
        clear hx10 hx11 h6 e3
        go_wp2_with fail
        refine (rflag_any g _ _ h7 (by simp)).mono ?_
        rintro e w7 ⟨rfl, h8, hx13⟩
        have hx14 : Ext [] w0 w7 := hx12.trans hx13 (by simpa using hg)
        rw [e4]
        clear hx12 hx13 h7 h8 e4
        go_wp2
        go_ret
        exact ⟨rfl, hx14⟩
      · -- read
        rw [hst] at h4
        obtain ⟨q, hqq⟩ : ∃ q, q = (readP z (l.drop at_, false)).1 := ⟨_, rfl⟩
        rw [← hqq] at hs hq ⊢
        have hxl : (layP q).length ≤ l.length - at_ := by
          have := congrArg List.length hs
          rw [List.length_drop, List.length_append] at this; omega
        have htk : (l.drop at_).take (layP q).length = layP q := by rw [hs]; exact List.take_left
        have hdr : s' = l.drop (at_ + (layP q).length) := by
          rw [← List.drop_drop, hs, List.drop_left]
        rw [hdr] at h4
        clear hqq hxr hx6 hr hst h1 hs hdr
        obtain ⟨qk, qn, qs⟩ := q
        simp only at hq
        have h5 : IsR (w4.alloc (.cells #[.int .i64 qk, .int .i64 qn, str qs] 38)) g (l.drop (at_ + (layP ⟨qk, qn, qs⟩).length), false) := h4.keep ((Ext.refl [] w4).alloc _) (by simp)
        have hx8 : Ext [] w0 (w4.alloc (.cells #[.int .i64 qk, .int .i64 qn, str qs] 38)) := hx7.alloc _
        clear h4 hx7
        go_wp2_with fail
        refine (rok_any g _ _ h5).mono ?_
        rintro e w5 ⟨rfl, rfl⟩
        go_wp2_with fail
        refine (lay_any _ 1 1 [⟨qk, qn, qs⟩] (Rd.part1 ⟨qk, qn, qs⟩) (by omega) (by simp; omega)).mono ?_
        rintro e w5 ⟨rfl, hx9⟩
        have h6 := h5.keep ((Ext.refl [] _).alloc _ |>.then0 hx9) (by simp)
        have hx10 : Ext [] w0 w5 := (hx8.alloc _).then0 hx9
        rw [layAll_one]
        obtain ⟨x, hxx⟩ : ∃ x, x = layP ⟨qk, qn, qs⟩ := ⟨_, rfl⟩
        rw [← hxx] at hxl htk h6 ⊢
        have hex : ByteArray.extract ⟨l.toArray⟩ at_ (at_ + x.length) = ⟨x.toArray⟩ := by rw [mid_extract, htk]
        clear hx8 hx9 h5 hxx htk
        go_wp2
        go_roundw
        case rel => exact ⟨k + 1, at_ + x.length, by omega, by go_num, by go_num, by omega, h6, hx10⟩
        case measure => simp [intOf]; omega
    · clear hR hl
      go_wp2_with fail
      refine (rdone_any g _ _ hr).mono ?_
      rintro e w4 ⟨rfl, rfl⟩
      by_cases hd : at_ = l.length
      · have e1 : doneR (l.drop at_, false) = 0 := by simp [doneR, hd]
        rw [e1]
        have e2 : ((at_ : Int) == (l.length : Int)) = true := by simp [hd]
        clear hd e1 hr
        go_wp2
        go_ret
        exact ⟨rfl, hxr⟩
      · have e1 : doneR (l.drop at_, false) = 2 := by simp [doneR]; omega
        rw [e1]
        have e2 : ((at_ : Int) == (l.length : Int)) = false := by simp; omega
        clear hd e1 hr
        go_wp2
        go_ret
        exact ⟨rfl, hxr⟩
end Go.Proofs.Ytoeccimbechfeaa
