/- PithFails: the walk. -/
import Derived.Test.YtoeccimbechfeaaLaw1
namespace Go.Proofs.Ytoeccimbechfeaa
open Go.RowKit
set_option linter.unusedVariables false
attribute [local go_sem high] run_max2 run_min2

theorem takeR_bad (n : Nat) : takeR n ([], true) = ([], ([], true)) := if_pos (.inl rfl)
theorem readP_bad (k : Int) : readP k ([], true) = (⟨kindZ k, 0, []⟩, ([], true)) := by
  rcases kindZ_cases k with h | h | h
  · rw [readP, if_pos h, h]; rfl
  · rw [readP, if_neg (by omega), if_pos h, h]; rfl
  · rw [readP, if_neg (by omega), if_neg (by omega), h]; rfl

set_option maxHeartbeats 800000 in
theorem fails_any {w0 : World} (l : List UInt8) (_ : l.length ≤ maxLen) (a : Option Addr) (len cap : Nat) (ns : List Int) (hR : Rd w0 1 (.slice a len cap) len (ns.map (Value.int .i64))) (hwf : ∀ n ∈ ns, (Lit.int .i64 n).wf = true) :
    Calls Try.prog 13 #[str l, .slice a len cap] w0 fun e w' => e = .returned (.bool true) ∧ Ext [] w0 w' := by
  by_cases h3 : 300 < l.length
  · go_enter Try.func13, Try.ntmps13
    go_wp2_with fail
    refine (head1_any w0).mono ?_
    rintro e w1 ⟨rfl, hx⟩
    go_wp2
    go_ret
    exact ⟨rfl, hx⟩
  by_cases h20 : 20 < len
  · go_enter Try.func13, Try.ntmps13
    go_wp2_with fail
    refine (head1_any w0).mono ?_
    rintro e w1 ⟨rfl, hx⟩
    go_wp2
    go_ret
    exact ⟨rfl, hx⟩
  have hl : ns.length = len := by have := hR.len.2.2.2; simpa using this
  go_enter Try.func13, Try.ntmps13
  go_wp2_with fail
  refine (head1_any w0).mono ?_
  rintro e w1 ⟨rfl, hx⟩
  go_wp2_with fail
  refine (read_any l w1).mono ?_
  rintro e w2 ⟨rfl, h2, hx2⟩
  have hx3 : Ext [] w0 w2 := hx.then0 hx2
  have hg : w0.heap.size ≤ w1.heap.size := hx.size
  clear hx hx2
  obtain ⟨g, hgg⟩ : ∃ g, g = w1.heap.size := ⟨_, rfl⟩
  rw [← hgg] at h2 hg ⊢
  clear hgg
  go_wp2_with fail
  refine (fail_any g _ _ h2).mono ?_
  rintro e w3 ⟨rfl, h3, hx4⟩
  have hx5 : Ext [] w0 w3 := hx3.trans hx4 (by simpa using hg)
  clear hx3 hx4 h2
  go_wp2
  go_loopw [24] (fun i wr => ∃ k : Nat, k ≤ len ∧ i = .int .i64 k ∧ IsR wr g ([], true) ∧ Ext [] w0 wr) (fun i _ => len - (intOf i).toNat)
  case atStart => exact ⟨0, by omega, rfl, h3, hx5⟩
  case round =>
    clear h3 hx5
    obtain ⟨k, hk, rfl, hr, hxr⟩ := hrel
    by_cases hlt : k < len
    · obtain ⟨b, off, rfl, hbw, hc⟩ := hR.view (by omega)
      have h1 := hxr.cell (p := ⟨b, off + k, none⟩) (by simp) (hc k (.int .i64 (ns.getD k 0)) (by simp [List.getD, show k < ns.length by omega]))
      obtain ⟨z, hz⟩ : ∃ z, z = ns.getD k 0 := ⟨_, rfl⟩
      rw [← hz] at h1
      clear hz hc hR hl hwf
      have e1 : IntKind.u64.wrap z = z % 18446744073709551616 := by simp [IntKind.wrap, IntKind.bits, IntKind.signed]
      have e2 : 0 ≤ z % 18446744073709551616 := by omega
      have e3 : 0 ≤ z % 18446744073709551616 % 3 ∧ z % 18446744073709551616 % 3 < 3 := by omega
      go_wp2_with fail
      refine (readP_any g z 0 [] ([], true) wr hr (by simp)).mono ?_
      rintro e w4 ⟨rfl, h4, hx6⟩
      have hx7 : Ext [] w0 w4 := hxr.trans hx6 (by simpa using hg)
      rw [readP_bad] at h4 ⊢
      simp only [kindZ]
      clear hxr hx6 hr
      go_wp2
      go_roundw
      case rel => exact ⟨k + 1, by omega, by go_num, h4, hx7⟩
      case measure => simp [intOf]; omega
    · clear hR hl hwf
      go_wp2_with fail
      refine (rok_any g _ _ hr).mono ?_
      rintro e w4 ⟨rfl, rfl⟩
      go_wp2_with fail
      refine (rdone_any g _ _ hr).mono ?_
      rintro e w4 ⟨rfl, rfl⟩
      have e1 : doneR ([], true) = 2 := by simp [doneR]
      rw [e1]
      clear e1 hr
      go_wp2
      go_ret
      exact ⟨rfl, hxr⟩
end Go.Proofs.Ytoeccimbechfeaa
