/- orchardlaw17: head. -/
import Derived.Test.YtaekkkcgoegllaaNeti
namespace Go.Proofs.Ytaekkkcgoegllaa
open Go.RowKit
set_option linter.unusedVariables false
set_option linter.unusedSimpArgs false

set_option maxRecDepth 100000 in
set_option maxHeartbeats 6400000 in
theorem head_any (w : World) : Calls Try.prog 12 #[] w fun e w' => e = .returned (.bool true) ∧ Ext [] w w' := by
  have h0 := NetX.mk1 (Ext.refl [] w) (Ext.refl _ _)
  obtain ⟨b, hb⟩ : ∃ b, b = w.heap.size := ⟨_, rfl⟩
  rw [← hb] at h0
  have HB := Hid.of hb
  go_enter Try.func12, Try.ntmps12
  go_wp2_with fail
  rw [← hb]
  refine (xsend1 h0 (by simp) 2 (by omega) (by omega) (b + 1) (by rw [World.size_alloc, hb]) (Ms.ix 1)).mono ?_
  rintro e w1 ⟨rfl, h1, -⟩
  clear hb h0
  go_wp2_with fail
  refine (xsend1 h1 (by simp) 1 (by omega) (by omega) w1.heap.size rfl (Ms.ix 2)).mono ?_
  rintro e w2 ⟨rfl, h2, -⟩
  clear h1
  go_wp2_with fail
  refine (xpass h2 (by omega)).mono ?_
  rintro e w3 ⟨rfl, h3, -⟩
  clear h2
  go_wp2_with fail
  refine (xpass h3 (by omega)).mono ?_
  rintro e w4 ⟨rfl, h4, -⟩
  clear h3
  have e4 : ([] ++ [(⟨0 + min (max 2 0) 1048576, 0 + 1, Ms.ix 1⟩ : Lt)]) ++ [⟨0 + min (max 1 0) 1048576, 0 + 1 + 1, Ms.ix 2⟩] = [⟨2, 1, Ms.ix 1⟩, ⟨1, 2, Ms.ix 2⟩] := rfl
  rw [e4] at h4
  go_wp2_with fail
  refine (xnext_yes h4 (by simp) ⟨1, 2, Ms.ix 2⟩ (by simp) (by decide)).mono ?_
  rintro e w5 ⟨x, A5, hp, hm, hd, rfl, h5, -⟩
  obtain rfl : x = ⟨1, 2, Ms.ix 2⟩ := by
    have hx : x ∈ [(⟨2, 1, Ms.ix 1⟩ : Lt), ⟨1, 2, Ms.ix 2⟩] := hp.mem_iff.2 (by simp)
    simp only [List.mem_cons, List.not_mem_nil, or_false] at hx
    rcases hx with rfl | rfl
    · exact absurd (hm ⟨1, 2, Ms.ix 2⟩ (by simp)) (by decide)
    · rfl
  obtain rfl : A5 = [⟨2, 1, Ms.ix 1⟩] := by
    have h6 : ([(⟨2, 1, Ms.ix 1⟩ : Lt)] ++ [(⟨1, 2, Ms.ix 2⟩ : Lt)]).Perm (A5 ++ [(⟨1, 2, Ms.ix 2⟩ : Lt)]) := hp
    have h7 := (List.perm_append_right_iff _).1 h6
    exact (List.perm_singleton.1 h7.symm)
  clear h4 hp hm hd
  go_wp2_with (refine wpList_new_row rfl rfl 36 _ _ _ rfl rfl rfl rfl _ al_msg (Ms.ix 2).cells rfl (by kernel_rfl) (mcells_one _) rfl rfl ?_)
  obtain ⟨p, hpe⟩ : ∃ p, p = w5.heap.size := ⟨_, rfl⟩
  have h6 := h5.add ((Ext.refl [] w5).alloc (.cells (Ms.ix 2).cells.toArray 36)) w5.heap.size (Nat.le_refl _) (by simp)
  have b6 := Blk.new w5 36 (Ms.ix 2).cells.toArray
  rw [← hpe] at h6 b6 ⊢
  clear hpe h5
  refine (xnext_yes h6 (by simp) ⟨2, 1, Ms.ix 1⟩ (by simp) (by decide)).mono ?_
  rintro e w7 ⟨x, A7, hp, hm, hd, rfl, h7, f7⟩
  have b7 := f7.blk b6 (by simp)
  have hx7 : x = ⟨2, 1, Ms.ix 1⟩ := by
    have hx : x ∈ [(⟨2, 1, Ms.ix 1⟩ : Lt)] := hp.mem_iff.2 (by simp)
    simpa using hx
  subst hx7
  obtain rfl : A7 = [] := by
    have := hp.length_eq
    simp at this
    exact this
  clear h6 b6 f7 hp hm hd
  go_wp2_with (refine wpList_new_row rfl rfl 36 _ _ _ rfl rfl rfl rfl _ al_msg (Ms.ix 1).cells rfl (by kernel_rfl) (mcells_one _) rfl rfl ?_)
  obtain ⟨q, hqe⟩ : ∃ p, p = w7.heap.size := ⟨_, rfl⟩
  have h8 := h7.add ((Ext.refl [] w7).alloc (.cells (Ms.ix 1).cells.toArray 36)) w7.heap.size (Nat.le_refl _) (by simp)
  have b8 := Blk.new w7 36 (Ms.ix 1).cells.toArray
  replace b7 := b7.alloc (.cells (Ms.ix 1).cells.toArray 36)
  rw [← hqe] at h8 b8 ⊢
  clear hqe h7
  refine (xnext_no h8 (by simp) (by simp)).mono ?_
  rintro e w9 ⟨rfl, hx9⟩
  replace b7 := b7.keep hx9 (by simp)
  replace b8 := b8.keep hx9 (by simp)
  have h9 := (h8.ext0 hx9).x.alloc (.cells Ms.zero.cells.toArray 36)
  have c7 : (w9.alloc (.cells Ms.zero.cells.toArray 36)).cell? ⟨p, 4, none⟩ = some (.int .i64 2) := (b7.alloc _).c 4
  have c8 : (w9.alloc (.cells Ms.zero.cells.toArray 36)).cell? ⟨q, 4, none⟩ = some (.int .i64 1) := (b8.alloc _).c 4
  clear h8 b7 b8 hx9
  go_wp2_with (refine wpList_new_row rfl rfl 36 _ _ _ rfl rfl rfl rfl _ al_msg Ms.zero.cells rfl (by kernel_rfl) (mcells_one _) rfl rfl ?_)
  go_ret
  exact ⟨rfl, h9⟩
end Go.Proofs.Ytaekkkcgoegllaa
