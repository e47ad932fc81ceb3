/- The reader's methods on nil. -/
import Derived.Test.YtoeccimbechfeaaLayLaw
namespace Go.Proofs.Ytoeccimbechfeaa
open Go.RowKit
set_option linter.unusedVariables false
attribute [local go_sem high] run_max2 run_min2

theorem take_nil (n : Int) (w : World) :
    Calls Try.prog 38 #[.pointer none, .int .i64 n] w fun e w' => e = .returned (str []) ∧ w = w' := by
  go_enter Try.func38, Try.ntmps38
  go_wp2_with fail
  refine (fail_nil w).mono ?_
  rintro e w1 ⟨rfl, rfl⟩
  go_wp2
  go_ret
  exact ⟨rfl, rfl⟩

set_option maxHeartbeats 800000 in
theorem rnum_nil (most : Int) (hm : 0 ≤ most) (w : World) :
    Calls Try.prog 33 #[.pointer none, .int .i64 most] w fun e w' => e = .returned (.int .i64 0) ∧ Ext [] w w' := by
  go_enter Try.func33, Try.ntmps33
  go_wp2_with fail
  refine (take_nil 6 w).mono ?_
  rintro e w1 ⟨rfl, rfl⟩
  go_wp2_with (first | ((with_reducible refine wpl_bytes (d := some 10) 5 Try.underlying9 Try.underlying23 Try.underlying5 ⟨([] : List UInt8).toArray⟩ ?_ ?_ ?_)))
  · rfl
  · show 0 ≤ _; omega
  intro cp w2 ho hx2 hsz
  clear ho
  obtain ⟨g, hg⟩ : ∃ g, g = w.heap.size := ⟨_, rfl⟩
  rw [← hg] at hsz ⊢
  clear hg
  go_wp2
  refine wp_loop_rounds 1 ?_
  rw [rounds_succ]
  go_wp2
  go_ret
  exact ⟨rfl, hx2⟩
theorem rtext_nil (most : Int) (w : World) :
    Calls Try.prog 34 #[.pointer none, .int .i64 most] w fun e w' => e = .returned (str []) ∧ w = w' := by
  go_enter Try.func34, Try.ntmps34
  go_wp2_with fail
  refine (take_nil 2 w).mono ?_
  rintro e w1 ⟨rfl, rfl⟩
  go_wp2
  go_ret
  exact ⟨rfl, rfl⟩
theorem rflag_nil (w : World) :
    Calls Try.prog 35 #[.pointer none] w fun e w' => e = .returned (.bool false) ∧ w = w' := by
  go_enter Try.func35, Try.ntmps35
  go_wp2_with fail
  refine (take_nil 1 w).mono ?_
  rintro e w1 ⟨rfl, rfl⟩
  go_wp2
  go_ret
  exact ⟨rfl, rfl⟩
end Go.Proofs.Ytoeccimbechfeaa
