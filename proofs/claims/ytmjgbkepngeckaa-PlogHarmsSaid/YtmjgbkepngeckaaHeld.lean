/- The second argument of 'go_region_held3' where S is 'a frame from a base world, and what follows of the frame': hP names the implication, hx the callee's frame. -/
import Derived.Test.YtmjgbkepngeckaaPith
import Derived.Deep.RegionHeld3
import Derived.Deep.QuietTactic
import Derived.BigQuiet
import Derived.Deep.DeepCutAuto
import Derived.Deep.CutBlock
namespace Go.Proofs.Ytmjgbkepngeckaa
open Go.RowKit
set_option linter.unusedVariables false

theorem Ext.drewN {F : List Nat} {a w : World} (h : Ext F a w) (n : Nat) : Ext F a (w.drewN n) := ⟨h.os, h.tape, h.output, h.size, h.block⟩
theorem Rd.drew {w : World} {size : Nat} {v : Value} {n : Nat} {xs : List Value} (h : Rd w size v n xs) : Rd w.drew size v n xs := h.keep ((Ext.refl [] w).drew) (by simp)
theorem Rd.ext0 {w w' : World} {size : Nat} {v : Value} {n : Nat} {xs : List Value} (h : Rd w size v n xs) (hx : Ext [] w w') : Rd w' size v n xs := h.keep hx (by simp)
end Go.Proofs.Ytmjgbkepngeckaa
