/- NetMany: the walk. -/
import Derived.Test.YtaekkkcgoegllaaNetk
namespace Go.Proofs.Ytaekkkcgoegllaa
open Go.RowKit
set_option linter.unusedVariables false
set_option linter.unusedSimpArgs false
attribute [local go_sem] i64_and31
attribute [local go_sem high] run_max2 run_min2

set_option maxRecDepth 100000 in
set_option maxHeartbeats 6400000 in
theorem many_any (cn : Int) (hcn : -9223372036854775808 ≤ cn ∧ cn ≤ 9223372036854775807) (w : World) : Calls Try.prog 3 #[.int .i64 cn] w fun e w' => e = .returned (.bool true) ∧ Ext [] w w' := by
  obtain ⟨N, hN⟩ : ∃ N : Nat, 1990 + cn % 32 = (N : Int) := ⟨(1990 + cn % 32).toNat, by omega⟩
  have hN0 : 1990 ≤ N := by omega
  have hN1 : N ≤ 2021 := by omega
  obtain ⟨M, hM⟩ : ∃ M : Nat, min (N : Int) 2000 = (M : Int) := ⟨min N 2000, by omega⟩
  have HM0 : Hid (M = min N 2000) := by show _ = _; omega
  have hM1 : M ≤ 2000 := by omega
  go_enter Try.func3, Try.ntmps3
  go_wp2_with fail
  refine (head_any _).mono ?_
  rintro e w1 ⟨rfl, hx1⟩
  have h0 := NetX.mk1 hx1 (Ext.refl _ _)
  have h0 := h0.add ((Ext.refl [] _).alloc (.cells #[] 36)) _ (Nat.le_refl _) (by simp)
  have o0 := Own.lit (w1.alloc (.cells #[.slice none 0 0, .int .i64 0, .int .i64 0] 27)) #[] 36 17 0 rfl (by unfold maxLen; omega)
  rw [World.size_alloc] at h0 o0
  have hbw : w.heap.size ≤ w1.heap.size := hx1.size
  have H0 := Hid.of h0
  have HO0 := Hid.of o0
  clear h0 o0
  go_wp2
  go_loopw [4, 5] (fun u4 u5 wr => ∃ (k : Nat), u5 = .int .i64 (k : Int) ∧ k ≤ N ∧ Hid (Own wr 36 17 u4 k (msgs (ixs 0 k))) ∧ Hid (NetX w wr w1.heap.size 0 0 [] (vblocks u4)) ∧ Hid (∀ q ∈ vblocks u4, w.heap.size ≤ q)) (fun _ u5 _ => N - (intOf u5).toNat)
  case atStart => exact ⟨0, rfl, by omega, HO0.out, H0.out, fun q hq => by simp [vblocks] at hq; omega⟩
  case round =>
    obtain ⟨k, rfl, hk, hO, hX, hV⟩ := hrel
    by_cases hlt : k < N
    · go_wp2_with (refine wpl_append (d := some 28) 36 (.agg Ms.zero.cells.toArray) 17 176 el_msg u4 k (msgs (ixs 0 k)) ?_ (hO.out.alloc _) (.slice (some ⟨wr.heap.size, 0, none⟩) 1 1) 1 (msgs [Ms.ix (k : Int)]) ?_ (Rd.msg1 wr _ (Ms.ix (k : Int)) (Ext.refl _ _)) ?_ ?_ ?_ ?_)
      · rfl
      · rfl
      · simpa [msgs] using mcells_one (Ms.ix (k : Int))
      · omega
      · unfold maxLen; omega
      intro v' w' ho' hx' hv' _
      have hX2 := hX.out.ext0 ((Ext.refl [] wr).alloc (.cells (Ms.ix (k : Int)).cells.toArray 36))
      have hsz := hx'.size
      have hvl := hO.out.lt
      have HX3 := Hid.of (hX2.turn hx' hV.out (vblocks v') (fun q hq => by
        rcases hv' with h | h
        · rw [h] at hq; exact ⟨.inl hq, by have := hvl q hq; simp at hsz; omega⟩
        · exact ⟨.inr (by rw [h] at hq; simp at hq ⊢; omega), ho'.lt q hq⟩))
      have HV3 := Hid.of (show ∀ q ∈ vblocks v', w.heap.size ≤ q from fun q hq => by
        rcases hv' with h | h
        · rw [h] at hq; exact hV.out q hq
        · rw [h] at hq; simp at hq; have := hX.out.x.size; omega)
      have HO3 := Hid.of ho'
      clear ho' hx' hv' hX2 hsz hvl
      go_wp2
      go_roundw
      case rel => exact ⟨k + 1, by congr 1, by omega, show Own _ _ _ _ _ _ by rw [ixs_succ, msgs_snoc, Nat.zero_add]; exact HO3.out, HX3.out, HV3.out⟩
      case measure => simp [intOf]; omega
    · obtain rfl : k = N := by omega
      obtain ⟨q, o, c, rfl⟩ := hO.out.pos (by omega)
      have hA := sendF_lsq (0 + min (max 0 0) 1048576) (ixs 0 k) 0 []
      rw [List.nil_append, List.length_nil, ixs_take, show min (2000 - 0) k = M by have := HM0.out; omega] at hA
      have HA := Hid.of hA
      clear hA
      go_wp2_with fail
      refine (xsend hX.out (by simp) 0 (by omega) (by omega) q o k c (ixs 0 k) hO.out.rd (by simp [vblocks]) (by rw [ixs_length]; omega)).mono ?_
      rintro e w2 ⟨rfl, h2, -⟩
      rw [HA.out] at h2
      generalize (sendF (0 + min (max 0 0) 1048576) (ixs 0 k) 0 []).1 = sq at h2
      have hl2 := lsq_length (0 + min (max 0 0) 1048576) (ixs 0 M) 0
      rw [ixs_length] at hl2
      rw [show (0 : Int) + min (max 0 0) 1048576 = 0 from rfl] at h2 hl2
      obtain ⟨A, hA⟩ : ∃ A, A = lsq 0 0 (ixs 0 M) := ⟨_, rfl⟩
      rw [← hA] at h2 hl2
      have HA2 := Hid.of hA
      clear hA HA hO hX hV H0 HO0
      go_wp2_with ((go_at_call 14; (with_reducible refine (xlen h2).mono ?_); rintro e w3 ⟨rfl, rfl⟩))
      have H2 := Hid.of (h2.mono (O' := []) (by simp))
      clear h2 hl2
      go_loopw [6] (fun u6 wr => ∃ (j : Nat) (s1 : Int), u6 = .int .i64 (j : Int) ∧ j ≤ M ∧ Hid (NetX w wr w1.heap.size 0 s1 (lsq 0 (j : Int) (ixs j (M - j))) [])) (fun u6 _ => M - (intOf u6).toNat)
      case atStart => exact ⟨0, sq, rfl, by omega, show NetX _ _ _ _ _ _ _ by have := H2.out; rw [HA2.out] at this; exact this⟩
      case round =>
        obtain ⟨j, s1, rfl, hj, hX⟩ := hrel
        by_cases hlt2 : j < M
        · have hX1 := hX.out
          rw [show M - j = (M - (j + 1)) + 1 by omega, ixs_cons, lsq] at hX1
          have hlen : (⟨0, (j : Int) + 1, Ms.ix j⟩ :: lsq 0 ((j : Int) + 1) (ixs (j + 1) (M - (j + 1)))).length ≤ 100000 := by
            rw [List.length_cons, lsq_length, ixs_length]; omega
          have cn := xnext_yes hX1 hlen ⟨0, (j : Int) + 1, Ms.ix j⟩ (by simp) (by show (0 : Int) ≤ 0; omega)
          clear hX1 hlen
          go_wp2_with (first
            | (go_at_call 15; (with_reducible refine cn.mono ?_); rintro e w5 ⟨x, A5, hp, hm, hd, rfl, h5, -⟩; obtain ⟨rfl, hp5⟩ := first_next hp hm (fun y hy => by have := lsq_mem _ _ _ y hy; unfold ltL; rw [if_pos this.1.symm]; simpa using this.2); have H5 := Hid.of (h5.perm hp5); have c4 : (w5.alloc (.cells (Ms.ix (j : Int)).cells.toArray 36)).cell? ⟨w5.heap.size, 4, none⟩ = some (.int .i64 (j : Int)) := (Blk.new w5 36 (Ms.ix (j : Int)).cells.toArray).c 4; clear h5 hp hm hd hp5 cn)
            | (refine wpList_new_row rfl rfl 36 _ _ _ rfl rfl rfl rfl _ al_msg (Ms.ix (j : Int)).cells rfl (by kernel_rfl) (mcells_one _) rfl rfl ?_))
          refine ⟨⟨j + 1, s1, by congr 1, by omega, ?_⟩, by simp [intOf]; omega⟩
          show NetX _ _ _ _ _ _ _
          rw [show ((j + 1 : Nat) : Int) = (j : Int) + 1 from by omega]
          exact H5.out.ext0 ((Ext.refl [] _).alloc _)
        · obtain rfl : j = M := by omega
          have hX1 := hX.out
          rw [Nat.sub_self] at hX1
          have cn := xnext_no hX1 (by simp [ixs, lsq]) (by simp [ixs, lsq])
          have hx9 := Hid.of hX1.x
          clear hX1
          go_wp2_with (first
            | (go_at_call 15; (with_reducible refine cn.mono ?_); rintro e w5 ⟨rfl, hx5⟩)
            | (refine wpList_new_row rfl rfl 36 _ _ _ rfl rfl rfl rfl _ al_msg Ms.zero.cells rfl (by kernel_rfl) (mcells_one _) rfl rfl ?_))
          go_ret
          exact ⟨rfl, (hx9.out.then0 hx5).alloc _⟩
end Go.Proofs.Ytaekkkcgoegllaa
