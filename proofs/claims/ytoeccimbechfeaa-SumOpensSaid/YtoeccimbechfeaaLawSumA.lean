/- SumOpens, SumGoes: the walks. -/
import Derived.Test.YtoeccimbechfeaaSum
namespace Go.Proofs.Ytoeccimbechfeaa
open Go.RowKit
set_option linter.unusedVariables false

set_option maxHeartbeats 400000 in
theorem sumOpens_any (l : List UInt8) (_ : l.length ≤ maxLen) (w : World) :
    Calls Try.prog 10 #[str l] w fun e w' => e = .returned (.bool true) ∧ Ext [] w w' := by
  by_cases h3 : 300 < l.length
  · go_enter Try.func10, Try.ntmps10
    go_wp2_with fail
    refine (head2_any w).mono ?_
    rintro e w1 ⟨rfl, hx⟩
    go_wp2
    go_ret
    exact ⟨rfl, hx⟩
  · go_enter Try.func10, Try.ntmps10
    go_wp2_with fail
    refine (head2_any w).mono ?_
    rintro e w1 ⟨rfl, hx⟩
    go_wp2_with fail
    refine (open_any l w1 (by omega)).mono ?_
    rintro e w2 ⟨rfl, hx2⟩
    have hx3 := hx.then0 hx2
    clear hx hx2
    by_cases ho : opens l = true
    · have hb : openB l = l.drop 4 := by rw [openB, ho]; rfl
      rw [ho, hb]
      have hq : (sealB (l.drop 4) == l) = true := by
        simp only [opens, Bool.and_eq_true] at ho; exact ho.2
      clear ho hb
      go_wp2_with fail
      refine (seal_any _ _ (by rw [List.length_drop]; omega)).mono ?_
      rintro e w3 ⟨rfl, hx4⟩
      have hx5 := hx3.then0 hx4
      clear hx3 hx4
      go_wp2
      go_ret
      exact ⟨rfl, hx5⟩
    · have ho2 : opens l = false := by simpa using ho
      have hb : openB l = [] := by rw [openB, ho2]; rfl
      rw [ho2, hb]
      by_cases h4 : l.length < 4
      · clear ho ho2 hb
        go_wp2
        go_ret
        exact ⟨rfl, hx3⟩
      · have hq : (sealB (l.drop 4) == l) = false := by
          simp only [opens, Bool.and_eq_false_iff] at ho2
          rcases ho2 with h | h
          · simp at h; omega
          · exact h
        have hx4 : Hid (ByteArray.extract ⟨l.toArray⟩ 4 l.length = ⟨(l.drop 4).toArray⟩) := drop_extract l 4 (by omega)
        clear ho ho2 hb
        go_wp2_with fail
        rw [hx4.out]
        refine (seal_any (l.drop 4) _ (by rw [List.length_drop]; omega)).mono ?_
        rintro e w3 ⟨rfl, hx4⟩
        have hx5 := hx3.then0 hx4
        clear hx3 hx4
        go_wp2
        go_ret
        exact ⟨rfl, hx5⟩
end Go.Proofs.Ytoeccimbechfeaa
