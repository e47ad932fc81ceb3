/- Package net: letters in their order. -/
import Derived.Test.YtaekkkcgoegllaaNetj
import Derived.Test.YtaekkkcgoegllaaBits
namespace Go.Proofs.Ytaekkkcgoegllaa
open Go.RowKit
set_option linter.unusedVariables false
set_option linter.unusedSimpArgs false
attribute [local go_sem] i64_and31
attribute [local go_sem high] run_max2 run_min2

theorem NetX.perm {w0 w : World} {b : Nat} {now seq : Int} {A A' : List Lt} {O : List Nat} (h : NetX w0 w b now seq A O) (hp : A.Perm A') : NetX w0 w b now seq A' O := by
  obtain ⟨h1, h2, v, ⟨L, h3, h3', h3''⟩, h4, h5⟩ := h
  exact ⟨h1, h2, v, ⟨L, h3, h3', h3''.trans hp⟩, h4, h5⟩
theorem NetX.turn {w0 w w' : World} {b : Nat} {now seq : Int} {A : List Lt} {F : List Nat} (h : NetX w0 w b now seq A F) (hx : Ext F w w') (hF : ∀ k ∈ F, w0.heap.size ≤ k) (O' : List Nat) (hO : ∀ k ∈ O', (k ∈ F ∨ w.heap.size ≤ k) ∧ k < w'.heap.size) : NetX w0 w' b now seq A O' := by
  obtain ⟨h1, h2, v, h3, h4, h5⟩ := h
  have hlt := h3.lt
  refine ⟨h1.trans hx (fun k hk => .inr (hF k hk)), h2, v, h3.keep hx (fun hm => (h5 b hm).2.1 rfl) (fun k hk hm => (h5 k hm).2.2 hk), h4, fun k hk => ?_⟩
  obtain ⟨h6, h7⟩ := hO k hk
  rcases h6 with h6 | h6
  · exact ⟨h7, (h5 k h6).2⟩
  · exact ⟨h7, by omega, fun hm => by have := hlt.2 k hm; omega⟩
def lsq (d : Int) : Int → List Ms → List Lt
  | _, [] => []
  | s, m :: r => ⟨d, s + 1, m⟩ :: lsq d (s + 1) r
theorem lsq_length (d : Int) : ∀ (ms : List Ms) (s : Int), (lsq d s ms).length = ms.length
  | [], _ => rfl
  | m :: r, s => by simp [lsq, lsq_length d r]
theorem lsq_mem (d : Int) : ∀ (ms : List Ms) (s : Int), ∀ y ∈ lsq d s ms, y.due = d ∧ s < y.seq
  | [], _ => by simp [lsq]
  | m :: r, s => by
    intro y hy
    rcases List.mem_cons.1 hy with rfl | hy
    · exact ⟨rfl, by show s < s + 1; omega⟩
    · have := lsq_mem d r (s + 1) y hy
      exact ⟨this.1, by omega⟩
theorem sendF_lsq (d : Int) : ∀ (ms : List Ms) (s : Int) (A : List Lt), (sendF d ms s A).2 = A ++ lsq d s (ms.take (2000 - A.length))
  | [], s, A => by simp [sendF, lsq]
  | m :: r, s, A => by
    rw [sendF]
    split
    · rename_i h
      rw [show 2000 - A.length = 0 by omega]
      simp [lsq]
    · rename_i h
      rw [sendF_lsq d r, show 2000 - A.length = (2000 - (A ++ [(⟨d, s + 1, m⟩ : Lt)]).length) + 1 by simp; omega, List.take_succ_cons, lsq]
      simp
/-- What comes next out of letters of which the first is ahead of all. -/
theorem first_next {x0 x : Lt} {R A' : List Lt} (hp : (x0 :: R).Perm (A' ++ [x])) (hm : ∀ y ∈ x0 :: R, ltL y x = false) (h0 : ∀ y ∈ R, ltL x0 y = true) : x = x0 ∧ A'.Perm R := by
  have hx : x = x0 := by
    have : x ∈ x0 :: R := hp.mem_iff.2 (by simp)
    rcases List.mem_cons.1 this with h | h
    · exact h
    · have h1 := hm x0 (by simp)
      rw [h0 x h] at h1; cases h1
  subst hx
  refine ⟨rfl, ?_⟩
  have h1 : (x :: R).Perm (x :: A') := hp.trans (List.perm_append_singleton x A')
  exact ((List.perm_cons x).1 h1).symm
def ixs (a m : Nat) : List Ms := (List.range' a m).map fun (i : Nat) => Ms.ix (i : Int)
theorem ixs_length (a m : Nat) : (ixs a m).length = m := by simp [ixs]
theorem ixs_succ (a m : Nat) : ixs a (m + 1) = ixs a m ++ [Ms.ix ((a + m : Nat) : Int)] := by
  unfold ixs
  rw [List.range'_concat]; simp
theorem ixs_cons (a m : Nat) : ixs a (m + 1) = Ms.ix (a : Int) :: ixs (a + 1) m := by
  unfold ixs; rw [List.range'_succ]; rfl
theorem ixs_take (a m j : Nat) : (ixs a m).take j = ixs a (min j m) := by
  unfold ixs
  rw [List.range'_eq_map_range, List.range'_eq_map_range, ← List.map_take, ← List.map_take, List.take_range]
theorem msgs_snoc (ms : List Ms) (m : Ms) : msgs (ms ++ [m]) = msgs ms ++ msgs [m] := by simp [msgs]
theorem el_msg : Elem Try.prog 28 36 (.agg Ms.zero.cells.toArray) 17 176 := Elem.mk' Try.underlying28 rfl (by kernel_rfl)
theorem Own.pos {w : World} {e : TypeId} {size n : Nat} {v : Value} {xs : List Value} (h : Own w e size v n xs) (h0 : 0 < n) : ∃ q o c, v = .slice (some ⟨q, o, none⟩) n c := by
  rcases h.2 with ⟨_, h2⟩ | ⟨g', off', cap', cur, fz, h', _⟩
  · omega
  · exact ⟨_, _, _, h'⟩
end Go.Proofs.Ytaekkkcgoegllaa
