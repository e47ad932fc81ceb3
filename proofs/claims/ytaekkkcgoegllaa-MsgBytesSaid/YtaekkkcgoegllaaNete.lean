/- container/heap over letters: Push and Pop; package net's Net: Now, Len, Pass, Clear. -/
import Derived.Test.YtaekkkcgoegllaaNetd
namespace Go.Proofs.Ytaekkkcgoegllaa
open Go.RowKit
set_option linter.unusedVariables false
set_option linter.unusedSimpArgs false

theorem NetTo.trans {w w1 w2 : World} {b : Nat} {v v1 : Value} {now seq : Int} {L : List Lt} (hx : Ext (b :: vblocks v) w w1) (hv : ∀ k ∈ vblocks v1, k ∈ vblocks v ∨ w.heap.size ≤ k) (h : NetTo w1 w2 b v1 now seq L) : NetTo w w2 b v now seq L := by
  obtain ⟨h1, v', h2, h3⟩ := h
  have := hx.size
  refine ⟨hx.trans h1 fun k hk => ?_, v', h2, fun k hk => ?_⟩
  · rcases List.mem_cons.1 hk with rfl | hk
    · exact .inl (by simp)
    · exact (hv k hk).imp_left fun h => List.mem_cons_of_mem _ h
  · rcases h3 k hk with h | h
    · exact hv k h
    · exact .inr (by omega)
theorem NetAt.form {w : World} {b : Nat} {v : Value} {now seq : Int} {L : List Lt} (h : NetAt w b v now seq L) : ∃ a c, v = .slice a L.length c := by
  exact Rd.isSlice h.own.rd
theorem NetAt.some {w : World} {b : Nat} {v : Value} {now seq : Int} {L : List Lt} (h : NetAt w b v now seq L) (h0 : 0 < L.length) : ∃ g off c, v = .slice (some ⟨g, off, none⟩) L.length c := by
  rcases h.own.2 with ⟨h', h2⟩ | ⟨g', off', cap', cur, fz, h', _⟩
  · omega
  · exact ⟨g', off', cap', h'⟩
set_option maxRecDepth 100000 in
set_option maxHeartbeats 6400000 in
theorem hpush_any (b : Nat) (v : Value) (now seq : Int) (L : List Lt) (l : Lt) (w : World) (h : NetAt w b v now seq L) (hl : L.length < 100000) :
    Calls Try.prog 29 #[.iface 72 (.pointer (some ⟨b, 0, none⟩)), .iface 74 (.agg l.cells.toArray)] w fun e w' => e = .returned (.tuple #[]) ∧ NetTo w w' b v now seq (pushL ltL l L) := by
  have eL := ent_len
  have eP := ent_push
  have mP := met_push' (.pointer (some ⟨b, 0, none⟩))
  have cp := push_any b v now seq L l w h (by omega)
  generalize hc : Value.agg l.cells.toArray = A at cp ⊢
  have HB : Hid _ := hc
  clear hc
  go_enter Try.func29, Try.ntmps29
  go_wp2_with (first
    | (go_at_fn 69; (with_reducible refine cp.mono ?_); rintro e w1 ⟨rfl, hx1, v1, h1, hv1⟩; obtain ⟨g, off, c, rfl⟩ := h1.some (by simp); have mL := met_len' ⟨b, 0, none⟩ _ w1 h1.c.1; have HX := Hid.of hx1; have HV := Hid.of hv1; clear hx1 hv1 cp)
    | (go_at_fn 63; (with_reducible refine (len_any _ _ _ _ rfl _).mono ?_); rintro e w2 ⟨rfl, rfl⟩)
    | (go_at_call 41; (with_reducible refine (up_any b g off _ c now seq (L ++ [l]) L.length w1 h1 (by simp) (by simp; omega)).mono ?_); rintro e w2 ⟨rfl, hx2, h2⟩))
  go_end0
  refine ⟨rfl, NetTo.trans HX.out HV.out (NetTo.mk1 h2 (hx2.mono fun k hk => ?_))⟩
  exact .inl (by simp at hk; simp [hk, vblocks])
set_option maxRecDepth 100000 in
set_option maxHeartbeats 6400000 in
theorem hpop_any (b g off n c : Nat) (now seq : Int) (L : List Lt) (w : World) (h : NetAt w b (.slice (some ⟨g, off, none⟩) n c) now seq L) (h0 : 0 < L.length) (hh : Heap ltL L) (hl : L.length ≤ 100000) :
    Calls Try.prog 30 #[.iface 72 (.pointer (some ⟨b, 0, none⟩))] w fun e w' => (∃ x, L[0]? = some x ∧ L.Perm (popL ltL L ++ [x]) ∧ Heap ltL (popL ltL L) ∧ e = .returned (.iface 74 (.agg x.cells.toArray))) ∧ NetTo w w' b (.slice (some ⟨g, off, none⟩) n c) now seq (popL ltL L) := by
  have eL := ent_len
  have eS := ent_swap
  have eP := ent_pop
  have mP := met_pop' (.pointer (some ⟨b, 0, none⟩))
  have mL := met_len' ⟨b, 0, none⟩ _ w h.c.1
  have mS := met_swap' ⟨b, 0, none⟩ _ w h.c.1
  have hn : n = L.length := by
    obtain ⟨_, _, _, h'⟩ := h.some h0
    simp only [Value.slice.injEq] at h'
    exact h'.2.1
  have cs := h.swapc 0 (L.length - 1) h0 (by omega)
  obtain ⟨x, hx, hlast, hheap, hperm, hlen⟩ := popL_spec ltL ltL_ord hh h0
  have e1 : ((L.length - 1 : Nat) : Int) = (n : Int) - 1 := by omega
  rw [e1] at cs
  rw [show ((0 : Nat) : Int) = 0 from rfl] at cs
  have hn1 : 1 ≤ n := by omega
  have hn2 : n ≤ 100000 := by omega
  have hD : downL ltL (L.length - 1) 0 (swp L 0 (L.length - 1)) = popL ltL L ++ [x] := by
    have hll : L.length - 1 < (downL ltL (L.length - 1) 0 (swp L 0 (L.length - 1))).length := by omega
    unfold popL
    conv => lhs; rw [← List.take_append_drop (L.length - 1) (downL ltL (L.length - 1) 0 (swp L 0 (L.length - 1)))]
    congr 1
    rw [List.drop_eq_getElem_cons hll, List.drop_eq_nil_of_le (by omega)]
    rw [List.getElem?_eq_getElem hll] at hlast
    rw [Option.some.inj hlast]
  have HD := Hid.of hD
  have HE := Hid.of e1
  have HR := Hid.of (show (∃ x, L[0]? = some x ∧ L.Perm (popL ltL L ++ [x]) ∧ Heap ltL (popL ltL L) ∧ Ending.returned (.iface 74 (.agg x.cells.toArray)) = .returned (.iface 74 (.agg x.cells.toArray))) from ⟨x, hx, hperm, hheap, rfl⟩)
  have hlw := swp_length L 0 (L.length - 1)
  have hP := Hid.of (show (∃ y, L[0]? = some y ∧ L.Perm (popL ltL L ++ [y]) ∧ Heap ltL (popL ltL L) ∧ Ending.returned (.iface 74 (.agg x.cells.toArray)) = .returned (.iface 74 (.agg y.cells.toArray))) from ⟨x, hx, hperm, hheap, rfl⟩)
  generalize hc : Value.agg x.cells.toArray = A at hP
  have HB := Hid.of hc
  clear hD e1 hx hlast hheap hperm hlen HR hh hn hc
  go_enter Try.func30, Try.ntmps30
  go_wp2_with (first
    | (go_at_fn 63; (with_reducible refine (len_any _ _ _ _ rfl _).mono ?_); rintro e w0 ⟨rfl, rfl⟩)
    | (go_at_fn 65; (with_reducible refine cs.mono ?_); rintro e w1 ⟨rfl, hx1, h1⟩; have HX := Hid.of hx1; clear hx1 cs)
    | (go_at_call 42; have cd := (down_any b g off n c now seq (swp L 0 (L.length - 1)) (L.length - 1) w1 h1 (by omega) (by omega)); rw [HE.out] at cd; (with_reducible refine cd.mono ?_); rintro e w2 ⟨⟨r, rfl⟩, hx2, h2⟩; rw [HD.out] at h2; have cp := pop_any b g off n c now seq (popL ltL L) x w2 h2; rw [HB.out] at cp; have HX2 := Hid.of hx2; clear hx2)
    | (go_at_fn 68; (with_reducible refine cp.mono ?_); rintro e w3 ⟨rfl, h3⟩))
  go_ret
  refine ⟨hP.out, NetTo.trans (HX.out.mono fun k hk => ?_) (fun k hk => .inl hk) (NetTo.trans (HX2.out.mono fun k hk => ?_) (fun k hk => .inl hk) h3)⟩
  · exact .inl (by simp at hk; simp [hk, vblocks])
  · exact .inl (by simp at hk; simp [hk, vblocks])
end Go.Proofs.Ytaekkkcgoegllaa
