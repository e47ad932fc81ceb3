/- The second argument of 'go_region_held3' where S is 'a frame from a base world, and what follows of the frame': hP names the implication, hx the callee's frame. -/
import Derived.Test.YtoeccimbechfeaaPith
import Derived.Deep.RegionHeld3
import Derived.Deep.QuietTactic
import Derived.BigQuiet
import Derived.Deep.DeepCutAuto
import Derived.Deep.CutBlock
namespace Go.Proofs.Ytoeccimbechfeaa
open Go.RowKit
set_option linter.unusedVariables false

theorem Ext.drewN {F : List Nat} {a w : World} (h : Ext F a w) (n : Nat) : Ext F a (w.drewN n) := ⟨h.os, h.tape, h.output, h.size, h.block⟩
end Go.Proofs.Ytoeccimbechfeaa
