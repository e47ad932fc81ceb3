/- The document's example of layer 1 holds. -/
import Derived.Test.YtoeccimbechfeaaPith
namespace Go.Proofs.Ytoeccimbechfeaa
open Go.RowKit
set_option linter.unusedVariables false
theorem Rd.ints1 {w : World} {e : TypeId} {g : Nat} (a : Int) (hg : w.heap.size = g := by simp) : Rd (w.alloc (.cells #[.int .i64 a] e)) 1 (.slice (some ⟨g, 0, none⟩) 1 1) 1 ([a].map (Value.int .i64)) :=
  Rd.litg #[.int .i64 a] e 1 1 rfl (by unfold maxLen; omega) hg

theorem head1_any (w : World) : Calls Try.prog 16 #[] w fun e w' => e = .returned (.bool true) ∧ Ext [] w w' := by
  go_enter Try.func16, Try.ntmps16
  go_wp2_with fail
  refine (num_any _ [] _ _ _ [258] _ (by omega) (by simp) (OwnB.nil _) (Rd.ints1 258) (by simp [vblocks])).mono ?_
  rintro e w1 ⟨v', rfl, ho, hx, hv⟩
  have e1 : [] ++ encNums [258] = [0, 0, 0, 0, 1, 2] := by decide
  rw [e1] at ho
  have hx' : Ext [] w w1 := ((Ext.refl [] w).alloc _).then0 hx
  have hs := ho.str
  clear e1 hv hx ho
  go_wp2
  go_ret
  exact ⟨rfl, hx'⟩
end Go.Proofs.Ytoeccimbechfeaa
