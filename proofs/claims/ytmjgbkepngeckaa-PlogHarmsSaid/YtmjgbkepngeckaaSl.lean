/- Slices of a list of entries, as steps of the walk. -/
import Derived.Test.YtmjgbkepngeckaaRingW
namespace Go.Proofs.Ytmjgbkepngeckaa
open Go.RowKit
set_option linter.unusedVariables false
set_option linter.unusedSimpArgs false

section
variable {w : World} {ops : Array Oper} {rest : List Oper} {a : Act} {Q : Exit → Act → World → Prop} {d : Option Tmp} {s h m : Tmp} {ty : TypeId} {pos : String} {after : Array Edge}
theorem wpl_slice3 (b : Option Addr) (n cap : Nat) (hs : a.eval (.tmp s) = .slice b n cap) (hh : a.eval (.tmp h) = .int .i64 n) (hm : a.eval (.tmp m) = .int .i64 n) (hc : n ≤ cap)
    (hK : wpList Try.prog ops Q rest (a.put d (.slice b n n)) w) : wpList Try.prog ops Q (⟨d, .slice 33 (.tmp s) none (some (.tmp h)) (some (.tmp m)), ty, pos, after, none⟩ :: rest) a w := by
  refine wpList_plain rfl fun K hk => ?_
  have hs' : a.tmps[s]?.getD undef = .slice b n cap := by simpa [Act.eval] using hs
  have hr : (execOp a.eval ⟨d, .slice 33 (.tmp s) none (some (.tmp h)) (some (.tmp m)), ty, pos, after, none⟩).run Try.prog w = .ok (.value (.slice b n n)) w := by
    have hh' : a.tmps[h]?.getD undef = .int .i64 n := by simpa [Act.eval] using hh
    have hm' : a.tmps[m]?.getD undef = .int .i64 n := by simpa [Act.eval] using hm
    simp [execOp, hs', hh', hm', hc, map_add0, Result.andThen, go_sem]
  unfold Oper.wp
  rw [hr]
  exact hk _ _ hK
theorem wpl_sliceH (b : Option Addr) (n k cap : Nat) (hs : a.eval (.tmp s) = .slice b n cap) (hh : a.eval (.tmp h) = .int .i64 k) (hc : k ≤ cap)
    (hK : wpList Try.prog ops Q rest (a.put d (.slice b k cap)) w) : wpList Try.prog ops Q (⟨d, .slice 33 (.tmp s) none (some (.tmp h)) none, ty, pos, after, none⟩ :: rest) a w := by
  refine wpList_plain rfl fun K hk => ?_
  have hs' : a.tmps[s]?.getD undef = .slice b n cap := by simpa [Act.eval] using hs
  have hr : (execOp a.eval ⟨d, .slice 33 (.tmp s) none (some (.tmp h)) none, ty, pos, after, none⟩).run Try.prog w = .ok (.value (.slice b k cap)) w := by
    have hh' : a.tmps[h]?.getD undef = .int .i64 k := by simpa [Act.eval] using hh
    simp [execOp, hs', hh', hc, map_add0, Result.andThen, go_sem]
  unfold Oper.wp
  rw [hr]
  exact hk _ _ hK
/-- What stands behind the first k. -/
def behindV (b : Option Addr) (n k cap : Nat) : Value := .slice (if cap = k then b else b.map (·.add (k * 3))) (n - k) (cap - k)
theorem wpl_sliceL (b : Option Addr) (n k cap : Nat) (hs : a.eval (.tmp s) = .slice b n cap) (hh : a.eval (.tmp h) = .int .i64 k) (hc : k ≤ n) (hc2 : n ≤ cap)
    (hK : wpList Try.prog ops Q rest (a.put d (behindV b n k cap)) w) : wpList Try.prog ops Q (⟨d, .slice 33 (.tmp s) (some (.tmp h)) none none, ty, pos, after, none⟩ :: rest) a w := by
  refine wpList_plain rfl fun K hk => ?_
  have hs' : a.tmps[s]?.getD undef = .slice b n cap := by simpa [Act.eval] using hs
  have hr : (execOp a.eval ⟨d, .slice 33 (.tmp s) (some (.tmp h)) none none, ty, pos, after, none⟩).run Try.prog w = .ok (.value (behindV b n k cap)) w := by
    have hh' : a.tmps[h]?.getD undef = .int .i64 k := by simpa [Act.eval] using hh
    simp [execOp, hs', hh', hc, hc2, behindV, Result.andThen, go_sem]
  unfold Oper.wp
  rw [hr]
  exact hk _ _ hK
theorem wpl_sliceV (b : Option Addr) (n k cap : Nat) (v : Value) (hv : behindV b n k cap = v) (hs : a.eval (.tmp s) = .slice b n cap) (hh : a.eval (.tmp h) = .int .i64 k) (hc : k ≤ n) (hc2 : n ≤ cap)
    (hK : wpList Try.prog ops Q rest (a.put d v) w) : wpList Try.prog ops Q (⟨d, .slice 33 (.tmp s) (some (.tmp h)) none none, ty, pos, after, none⟩ :: rest) a w := by
  subst hv
  exact wpl_sliceL b n k cap hs hh hc hc2 hK
end
theorem behindV_blocks (b : Option Addr) (n k cap : Nat) : vblocks (behindV b n k cap) = vblocks (.slice b n cap) := by
  unfold behindV
  cases b with
  | none => by_cases h : cap = k <;> simp [vblocks, h]
  | some g => by_cases h : cap = k <;> simp [vblocks, h, Addr.add] <;> (try split) <;> rfl
theorem Rd.behind {w : World} {b : Option Addr} {n cap : Nat} {xs : List Value} (h : Rd w 3 (.slice b n cap) n xs) (k : Nat) (hk : k ≤ n) : Rd w 3 (behindV b n k cap) (n - k) (xs.drop (k * 3)) := by
  have hl := h.len
  obtain ⟨h1, a', cap', e, h2, h3, h4, h5⟩ := h
  simp only [Value.slice.injEq] at e
  obtain ⟨rfl, _, rfl⟩ := e
  refine ⟨by rw [List.length_drop, h1, Nat.sub_mul], _, _, rfl, by omega, by omega, fun hn => ?_, fun g hg j u hu => ?_⟩
  · have : b = none := by
      split at hn
      · exact hn
      · cases b with
        | none => rfl
        | some g => cases hn
    have := h4 this
    omega
  · rw [List.getElem?_drop] at hu
    split at hg
    · rename_i hck
      have hlen := (List.getElem?_eq_some_iff.1 hu).1
      rw [h1] at hlen
      have : n * 3 = k * 3 := by omega
      omega
    · cases b with
      | none => cases hg
      | some b0 =>
        simp only [Option.map_some, Option.some.injEq] at hg
        subst hg
        rw [Addr.add_add]
        exact h5 b0 rfl _ u hu
end Go.Proofs.Ytmjgbkepngeckaa
