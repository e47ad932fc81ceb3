/- SumGoes: the walk. -/
import Derived.Test.YtoeccimbechfeaaSum
import Derived.Test.YtoeccimbechfeaaSumLaw
namespace Go.Proofs.Ytoeccimbechfeaa
open Go.RowKit
set_option linter.unusedVariables false
attribute [local go_sem] run_str1

set_option maxHeartbeats 400000 in
theorem sumGoes_any (l : List UInt8) (_ : l.length ≤ maxLen) (a b : UInt8) (w : World) :
    Calls Try.prog 7 #[str l, .int .u8 (a.toNat : Int), .int .u8 (b.toNat : Int)] w fun e w' => e = .returned (.bool true) ∧ Ext [] w w' := by
  by_cases h3 : 300 < l.length
  · go_enter Try.func7, Try.ntmps7
    go_wp2_with fail
    refine (head2_any w).mono ?_
    rintro e w1 ⟨rfl, hx⟩
    go_wp2
    go_ret
    exact ⟨rfl, hx⟩
  · go_enter Try.func7, Try.ntmps7
    go_wp2_with fail
    refine (head2_any w).mono ?_
    rintro e w1 ⟨rfl, hx⟩
    go_wp2_with fail
    refine (of_any _ _ _ [l] _ (by omega) (by unfold maxLen; simp; omega) (Rd.strs1 l)).mono ?_
    rintro e w2 ⟨rfl, hx2⟩
    have hx3 : Ext [] w w2 := (hx.alloc _).then0 hx2
    clear hx hx2
    rw [List.flatten_singleton]
    obtain ⟨x, hxx⟩ : ∃ x, x = sumOf l := ⟨_, rfl⟩
    rw [← hxx]
    clear hxx
    go_wp2_with fail
    refine (add_any x _ _ _ [[a]] _ (by omega) (by unfold maxLen; simp) (Rd.strs1 [a])).mono ?_
    rintro e w3 ⟨rfl, hx4⟩
    have hx5 : Ext [] w w3 := ((hx3.alloc _).alloc _).then0 hx4
    clear hx3 hx4
    go_wp2_with fail
    refine (add_any x _ _ _ [[b]] _ (by omega) (by unfold maxLen; simp) (Rd.strs1 [b])).mono ?_
    rintro e w4 ⟨rfl, hx6⟩
    have hx7 : Ext [] w w4 := ((hx5.alloc _).alloc _).then0 hx6
    clear hx5 hx6
    rw [List.flatten_singleton]
    have hyz : (u32v (sumAdd x [a]) == u32v (sumAdd x [b])) = ((a.toNat : Int) == (b.toNat : Int)) := by
      rw [u32v_beq, Bool.eq_iff_iff, beq_iff_eq, beq_iff_eq, sumAdd_byte]
      exact ⟨fun h => by rw [h], fun h => UInt8.toNat_inj.1 (by omega)⟩
    go_wp2_with fail
    refine (add_any x _ _ _ [] _ (by omega) (by simp) (Rd.nil _ _)).mono ?_
    rintro e w5 ⟨rfl, hx8⟩
    have hx9 : Ext [] w w5 := hx7.then0 hx8
    clear hx7 hx8
    rw [List.flatten_nil, sumAdd_nil]
    go_wp2_with fail
    refine (add_any x _ _ _ [[], []] _ (by omega) (by simp) (Rd.strs2 [] [])).mono ?_
    rintro e w6 ⟨rfl, hx10⟩
    have hx11 : Ext [] w w6 := (hx9.alloc _).then0 hx10
    clear hx9 hx10
    have e1 : ([[], []] : List (List UInt8)).flatten = [] := rfl
    rw [e1, sumAdd_nil]
    clear e1
    go_wp2
    go_ret
    exact ⟨rfl, hx11⟩
end Go.Proofs.Ytoeccimbechfeaa
