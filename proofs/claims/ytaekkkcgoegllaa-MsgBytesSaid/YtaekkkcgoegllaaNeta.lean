/- Package net: the walks of Len, Less, Swap. -/
import Derived.Test.YtaekkkcgoegllaaNet
namespace Go.Proofs.Ytaekkkcgoegllaa
open Go.RowKit
set_option linter.unusedVariables false
set_option linter.unusedSimpArgs false

theorem len_any (v : Value) (a : Option Addr) (n c : Nat) (hv : v = .slice a n c) (w : World) : Calls Try.prog 63 #[v] w fun e w' => e = .returned (.int .i64 (n : Int)) ∧ w = w' := by
  subst hv
  go_enter Try.func63, Try.ntmps63
  go_wp2
  go_ret
  exact ⟨rfl, rfl⟩
set_option maxHeartbeats 3200000 in
theorem less_any (g off n c : Nat) (L : List Lt) (i j : Nat) (w : World) (h : Own w 74 19 (.slice (some ⟨g, off, none⟩) n c) n (lets L)) (hi : i < L.length) (hj : j < L.length) :
    Calls Try.prog 64 #[.slice (some ⟨g, off, none⟩) n c, .int .i64 (i : Int), .int .i64 (j : Int)] w fun e w' => e = .returned (.bool (ltL L[i] L[j])) ∧ Ext [] w w' := by
  have hn : n = L.length := by have := h.1; rw [lets_len] at this; omega
  have i0 : w.cell? ⟨g, off + i * 19, none⟩ = some (.int .i64 L[i].due) := (h.range i hi).1 0 _ rfl
  have i1 : w.cell? ⟨g, off + i * 19 + 1, none⟩ = some (.int .i64 L[i].seq) := (h.range i hi).1 1 _ rfl
  have j0 : w.cell? ⟨g, off + j * 19, none⟩ = some (.int .i64 L[j].due) := (h.range j hj).1 0 _ rfl
  have j1 : w.cell? ⟨g, off + j * 19 + 1, none⟩ = some (.int .i64 L[j].seq) := (h.range j hj).1 1 _ rfl
  have HL : Hid (ltL L[i] L[j] = if L[i].due = L[j].due then decide (L[i].seq < L[j].seq) else decide (L[i].due < L[j].due)) := rfl
  obtain ⟨a, ha⟩ : ∃ a, a = L[i] := ⟨_, rfl⟩
  obtain ⟨b, hb⟩ : ∃ a, a = L[j] := ⟨_, rfl⟩
  rw [← ha] at i0 i1 HL
  rw [← hb] at j0 j1 HL
  have hlm : n ≤ 9223372036854775807 := by have := h.rd.len; unfold maxLen at this; omega
  rw [← ha, ← hb]
  rw [← hn] at hi hj
  clear ha hb h hn
  obtain ⟨ad, asq, am⟩ := a
  obtain ⟨bd, bsq, bm⟩ := b
  simp only at i0 i1 j0 j1 HL
  by_cases he : ad = bd
  · rw [if_pos he] at HL
    subst he
    go_enter Try.func64, Try.ntmps64
    go_wp2
    go_region
    all_goals (
      go_wp2
      go_region
      all_goals (
        go_wp2
        go_ret
        rw [HL.out]
        exact ⟨rfl, ((Ext.refl _ _).drew).drew⟩))
  · rw [if_neg he] at HL
    go_enter Try.func64, Try.ntmps64
    go_wp2
    go_region
    all_goals (
      go_wp2
      go_region
      all_goals (
        go_wp2
        go_ret
        rw [HL.out]
        exact ⟨rfl, ((Ext.refl _ _).drew).drew⟩))
end Go.Proofs.Ytaekkkcgoegllaa
