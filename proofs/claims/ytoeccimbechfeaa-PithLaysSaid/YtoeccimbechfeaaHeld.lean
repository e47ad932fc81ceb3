/- The second argument of 'go_region_held3' where S is 'a frame from a base world, and what follows of the frame': hP names the implication, hx the callee's frame. -/
import Derived.Test.YtoeccimbechfeaaPith
import Derived.Deep.RegionHeld3
import Derived.Deep.QuietTactic
import Derived.BigQuiet
import Derived.Deep.DeepCutAuto
import Derived.Deep.CutBlock
namespace Go.Proofs.Ytoeccimbechfeaa
open Go.RowKit
set_option linter.unusedVariables false

set_option hygiene false in
/-- A frame: from what lies at hand, through draws, allocs, stores into what is new, and the last callee's frame hx. -/
macro "ext_now" : tactic => `(tactic| (repeat' (first
  | assumption
  | exact Ext.refl _ _
  | apply Ext.drew
  | (refine Ext.alloc ?_ _)
  | (refine Ext.setCell ?_ (by first | (right; simp; done) | (right; have := hx.size; simp at this ⊢; omega) | (left; simp; done)) _)
  | (refine Ext.then0 ?_ hx)
  | (refine Ext.trans ?_ hx (by simp)))))

set_option hygiene false in
macro "keep_ext" : tactic => `(tactic| first
  | exact hP _ (by assumption)
  | (go_split_ands; apply hP; ext_now; done))
end Go.Proofs.Ytoeccimbechfeaa
