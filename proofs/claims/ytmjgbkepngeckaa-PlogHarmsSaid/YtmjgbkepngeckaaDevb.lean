/- The contracts of the device's put, Write, Flush, Lose, Flip. -/
import Derived.Test.YtmjgbkepngeckaaDev
namespace Go.Proofs.Ytmjgbkepngeckaa
open Go.RowKit
set_option linter.unusedVariables false

theorem put_any (b m1 m3 m4 : Nat) (sv : Value) (D : Dv) (k : Int) (s : List UInt8) (w : World) (hi : DevIn w b m1 m3 m4 sv D) :
    Calls Try.prog 47 #[.pointer (some ⟨b, 0, none⟩), .int .i64 k, str s] w fun e w' => e = .returned (.tuple #[]) ∧ DevIn w' b m1 m3 m4 sv (putD k s D) ∧ Ext [m1, m4] w w' := by
  obtain ⟨_, c1, _, _, c4, _, _⟩ := hi.c
  go_enter Try.func47, Try.ntmps47
  go_wp2_with (first | ((with_reducible refine wpl_mapset Try.underlying91 Try.underlying3 hi.safe k (str s) ?_ ?_ ?_ ?_)))
  all_goals try rfl
  intro w1 hm1 hx1
  have hi1 := hi.setSafe k s hm1 hx1
  obtain ⟨_, c1', _, _, c4', _, _⟩ := hi1.c
  have hx2 : Ext [m1, m4] w w1 := hx1.mono (by simp)
  clear c1 c4 hm1 hx1 hi
  go_wp2_with (first | ((with_reducible refine wpl_mapdel Try.underlying84 Try.underlying3 hi1.hurt k ?_ ?_ ?_)))
  all_goals try rfl
  intro w2 hm2 hx3
  have hi2 := hi1.setHurt k false hm2 hx3
  have hx4 : Ext [m1, m4] w w2 := hx2.trans hx3 (by simp)
  clear c1' c4' hm2 hx3 hx2 hi1
  go_wp2
  go_end0
  exact ⟨rfl, hi2, hx4⟩

theorem Rd.chg1 {w : World} {g : Nat} (c : Int × List UInt8) (hg : w.heap.size = g) : Rd (w.alloc (.cells #[.int .i64 c.1, .string ⟨c.2.toArray⟩] 98)) 2 (.slice (some ⟨g, 0, none⟩) 1 1) 1 (chgs [c]) :=
  Rd.litg #[.int .i64 c.1, .string ⟨c.2.toArray⟩] 98 2 1 rfl (by unfold maxLen; omega) hg
theorem chgs_length (l : List (Int × List UInt8)) : (chgs l).length = l.length * 2 := flatMap_len chg 2 chg_len l

set_option maxHeartbeats 800000 in
theorem write_any (b : Nat) (F : List Nat) (D : Dv) (k : Int) (s : List UInt8) (w : World) (h : DevAt w b F D) (hok : DvOk D) (hlen : D.since.length ≤ 1000000) :
    Calls Try.prog 57 #[.pointer (some ⟨b, 0, none⟩), .int .i64 k, str s] w fun e w' => e = .returned (.int .i64 (writeE k s D)) ∧ DevTo w w' b F (writeD k s D) := by
  have ht := turnD_same D
  have hs0 := hok.size0
  have hs1 := hok.size
  go_enter Try.func57, Try.ntmps57
  go_wp2_with fail
  refine (turn_any b F D w h hok).mono ?_
  rintro e w1 ⟨rfl, hx, F', hD, hF⟩
  have hto : DevTo w w1 b F (turnD D) := ⟨hx, F', hD, hF⟩
  obtain ⟨m1, m3, m4, sv, hi, hb, h1, h3, h4, hs⟩ := hD
  obtain ⟨c0, _, c2, c3, _, _, _⟩ := hi.c
  rw [ht.1] at c0
  obtain ⟨te, hte⟩ : ∃ t, t = turnE D := ⟨_, rfl⟩
  have hte2 : te = 5 ∨ te = 0 := by rw [hte]; unfold turnE; split <;> simp
  by_cases h5 : te = 5
  · have HE : Hid (writeE k s D = 5) := by show _ = _; rw [writeE, ← hte, if_pos h5]
    have HD : Hid (writeD k s D = turnD D) := by show _ = _; rw [writeD, HE.out]; rfl
    rw [← hte, h5]
    clear hte hte2 h5
    go_wp2
    go_ret
    exact ⟨by rw [HE.out]; rfl, by rw [HD.out]; exact hto⟩
  · have h50 : turnE D ≠ 5 := by rw [← hte]; exact h5
    have h0 : te = 0 := by omega
    rw [← hte, h0]
    clear hte hte2 h5 h0
    by_cases hr : k < 0 ∨ D.size ≤ k
    · have HE : Hid (writeE k s D = 7) := by show _ = _; rw [writeE, if_neg h50, if_pos hr]
      have HD : Hid (writeD k s D = turnD D) := by show _ = _; rw [writeD, HE.out]; rfl
      by_cases hk : k < 0
      · clear hr h50
        go_wp2
        go_ret
        exact ⟨by rw [HE.out]; rfl, by rw [HD.out]; exact hto⟩
      · have hk2 : D.size ≤ k := by omega
        clear hr h50
        go_wp2
        go_ret
        exact ⟨by rw [HE.out]; rfl, by rw [HD.out]; exact hto⟩
    · have hk0 : ¬ k < 0 := fun h => hr (.inl h)
      have hk1 : ¬ D.size ≤ k := fun h => hr (.inr h)
      by_cases hl : 512 < s.length
      · have HE : Hid (writeE k s D = 3) := by show _ = _; rw [writeE, if_neg h50, if_neg hr, if_pos hl]
        have HD : Hid (writeD k s D = turnD D) := by show _ = _; rw [writeD, HE.out]; rfl
        clear hr h50
        go_wp2
        go_ret
        exact ⟨by rw [HE.out]; rfl, by rw [HD.out]; exact hto⟩
      · have HE : Hid (writeE k s D = 0) := by show _ = _; rw [writeE, if_neg h50, if_neg hr, if_neg hl]
        have HD : Hid (writeD k s D = addD k s (turnD D)) := by show _ = _; rw [writeD, if_pos HE.out]
        have hsl : (turnD D).since.length ≤ 1000000 := by rw [ht.2.1]; exact hlen
        obtain ⟨T, hT⟩ : ∃ T, T = turnD D := ⟨_, rfl⟩
        rw [← hT] at hi hsl HD
        have hg := hi.slt
        clear hr h50 hto ht hT hok h hs0 hs1
        go_wp2_with (first | ((with_reducible refine wpl_append (d := some 37) 98 (.agg #[.int .i64 0, .string ByteArray.empty]) 2 24 el_change sv T.since.length (chgs T.since) ?_ (hi.since.keep ((Ext.refl [] _).alloc _) (by simp)) (.slice (some ⟨w1.heap.size, 0, none⟩) 1 1) 1 (chgs [(k, s)]) ?_ (Rd.chg1 (k, s) rfl) (chgs_cells _) ?_ ?_ ?_)))
        all_goals try rfl
        · omega
        · unfold maxLen; omega
        intro v' w2 ho hx2 hv _
        obtain ⟨a', cap', rfl⟩ := ho.rd.isSlice
        have hv2 : ∀ x ∈ vblocks (.slice a' (T.since.length + 1) cap'), x ∈ vblocks sv ∨ w1.heap.size ≤ x := by
          intro x hx'
          rcases hv with hv | hv
          · exact .inl (hv ▸ hx')
          · rw [hv] at hx'; simp at hx'; exact .inr (by omega)
        have hx3 : Ext (vblocks sv) w1 w2 := ((Ext.refl _ _).alloc _).trans hx2 (fun x hx' => .inl hx')
        have hb2 := hi.blk.keep hx3 (fun hh => (hi.sep _ hh).1 rfl)
        have c2' := hb2.c 2
        have f2' := hb2.f 2
        have hi2 := hi.swap (T.since ++ [(k, s)]) hx3 (by rw [chgs_append, List.length_append]; exact ho) hv2
        have c3' := hi2.c.2.2.2.1
        have hx4 : Ext F w (w2.setCell ⟨b, 2, none⟩ (.slice a' (T.since.length + 1) cap')) := ((hx.trans hx3 (fun x hx' => hF x (hs x hx'))).setCell (hF b hb |>.imp id id) _)
        simp only [List.getElem?_cons_zero, List.getElem?_cons_succ] at c2'
        clear ho hx2 hx3 hb2 hv
        go_wp2_with (first | ((with_reducible refine wpl_mapdel Try.underlying84 Try.underlying3 hi2.lost k ?_ ?_ ?_)))
        all_goals try rfl
        intro w3 hm3 hx5
        have hi3 := hi2.setLost k false hm3 hx5
        have hsz := hx.size
        have hx6 : Ext F w w3 := hx4.trans hx5 (fun x hx' => by simp at hx'; subst hx'; exact hF _ h3)
        clear hi2 hm3 hx5 hx4
        go_wp2
        go_ret
        refine ⟨by rw [HE.out]; rfl, ?_⟩
        rw [HD.out]
        refine ⟨hx6, _, hi3.at, fun x hx' => ?_⟩
        simp only [List.mem_cons] at hx'
        rcases hx' with rfl | rfl | rfl | rfl | hx'
        · exact hF _ hb
        · exact hF _ h1
        · exact hF _ h3
        · exact hF _ h4
        · rcases hv2 x hx' with h' | h'
          · exact hF _ (hs x h')
          · exact .inr (by omega)

/-- An element of what was written, by its place. -/
theorem chgs_get (l : List (Int × List UInt8)) (k : Nat) (hk : k < l.length) : (chgs l)[k * 2]? = some (.int .i64 l[k].1) ∧ (chgs l)[k * 2 + 1]? = some (str l[k].2) := by
  have h0 := flatMap_get chg 2 chg_len l k 0 hk (by omega)
  have h1 := flatMap_get chg 2 chg_len l k 1 hk (by omega)
  exact ⟨h0, h1⟩
theorem putsD_take (l : List (Int × List UInt8)) (k : Nat) (hk : k < l.length) (D : Dv) : putsD (l.take (k + 1)) D = putD l[k].1 l[k].2 (putsD (l.take k) D) := by
  rw [List.take_succ_eq_append_getElem hk, putsD_append]; rfl

set_option maxHeartbeats 800000 in
theorem flush_any (b : Nat) (F : List Nat) (D : Dv) (w : World) (h : DevAt w b F D) (hok : DvOk D) :
    Calls Try.prog 56 #[.pointer (some ⟨b, 0, none⟩)] w fun e w' => e = .returned (.int .i64 (turnE D)) ∧ DevTo w w' b F (flushD D) := by
  have ht := turnD_same D
  go_enter Try.func56, Try.ntmps56
  go_wp2_with fail
  refine (turn_any b F D w h hok).mono ?_
  rintro e w1 ⟨rfl, hx, F', hD, hF⟩
  have hto : DevTo w w1 b F (turnD D) := ⟨hx, F', hD, hF⟩
  obtain ⟨m1, m3, m4, sv, hi, hb, h1, h3, h4, hs⟩ := hD
  obtain ⟨te, hte⟩ : ∃ t, t = turnE D := ⟨_, rfl⟩
  have hte2 : te = 5 ∨ te = 0 := by rw [hte]; unfold turnE; split <;> simp
  by_cases h5 : te = 5
  · have HT5 : Hid (turnE D = 5) := by show _ = _; rw [← hte, h5]
    have HD : Hid (flushD D = turnD D) := by show _ = _; rw [flushD, ← hte, if_pos h5]
    rw [← hte, h5]
    clear hte hte2 h5
    go_wp2
    go_ret
    exact ⟨by rw [HT5.out]; rfl, by rw [HD.out]; exact hto⟩
  · have HD : Hid (flushD D = { putsD (turnD D).since (turnD D) with since := [] }) := by show _ = _; rw [flushD, ← hte, if_neg h5, ht.2.1]
    have h0 : te = 0 := by omega
    have HT0 : Hid (turnE D = 0) := by show _ = _; rw [← hte, h0]
    rw [← hte, h0]
    obtain ⟨a, cap, rfl⟩ := hi.since.rd.isSlice
    obtain ⟨T, hT⟩ : ∃ T, T = turnD D := ⟨_, rfl⟩
    rw [← hT] at hi HD
    have c2 := hi.c.2.2.1
    have hlm : T.since.length ≤ 9223372036854775807 := by
      have := hi.since.rd.len; unfold maxLen at this; omega
    rw [← hT] at hs
    clear hte hte2 h5 h0 ht hto h hok hT
    go_wp2
    go_loopw [16] (fun i wr => ∃ k : Nat, k ≤ T.since.length ∧ i = .int .i64 k ∧ DevIn wr b m1 m3 m4 (.slice a T.since.length cap) (putsD (T.since.take k) T) ∧ Ext [m1, m4] w1 wr) (fun i _ => T.since.length - (intOf i).toNat)
    case atStart => exact ⟨0, by omega, rfl, hi, Ext.refl _ _⟩
    case round =>
      clear c2 hi
      obtain ⟨k, hk, rfl, hi, hxr⟩ := hrel
      have hsz := putsD_size (T.since.take k) T
      by_cases hlt : k < T.since.length
      · have hrd : Rd wr 2 (.slice a T.since.length cap) T.since.length (chgs T.since) := by have := hi.since.rd; rwa [hsz.2.1] at this
        obtain ⟨g, off, rfl, hgw, hc⟩ := hrd.view (by omega)
        have hg2 := chgs_get T.since k hlt
        have c0 := hc _ _ hg2.1
        have c1 := hc _ _ hg2.2
        have HP : Hid (putsD (T.since.take (k + 1)) T = putD T.since[k].1 T.since[k].2 (putsD (T.since.take k) T)) := putsD_take T.since k hlt T
        obtain ⟨c, hcc⟩ : ∃ c, c = T.since[k] := ⟨_, rfl⟩
        rw [← hcc] at c0 c1 HP
        obtain ⟨ck, cs⟩ := c
        simp only at c0 c1 HP
        rw [← Nat.add_assoc] at c1
        clear hcc hc hg2 hsz hrd
        go_wp2_with fail
        refine (put_any b m1 m3 m4 _ _ ck cs _ (hi.keep0 ((Ext.refl [] _).alloc _))).mono ?_
        rintro e w2 ⟨rfl, hi2, hx2⟩
        have hx3 : Ext [m1, m4] w1 w2 := (hxr.alloc _).trans hx2 (fun x hx' => .inl hx')
        clear c0 c1 hxr hx2 hi
        go_wp2
        go_roundw
        case rel => exact ⟨k + 1, by omega, by go_num, by rw [HP.out]; exact hi2, hx3⟩
        case measure => simp [intOf]; omega
      · obtain rfl : k = T.since.length := by omega
        rw [List.take_of_length_le (Nat.le_refl _)] at hi
        have c2 := hi.blk.c 2
        have f2 := hi.blk.f 2
        simp only [List.getElem?_cons_zero, List.getElem?_cons_succ] at c2
        have hi2 := hi.swap [] (Ext.refl _ _) (Own.nil _ _ _) (by simp [vblocks])
        clear hsz
        go_wp2
        go_ret
        refine ⟨by rw [HT0.out]; rfl, ?_⟩
        rw [HD.out]
        have hsz := hx.size
        have hx4 : Ext F w (wr.setCell ⟨b, 2, none⟩ (.slice none 0 0)) := (hx.trans hxr (fun x hx' => by simp only [List.mem_cons, List.not_mem_nil, or_false] at hx'; rcases hx' with rfl | rfl; exact hF _ h1; exact hF _ h4)).setCell (hF b hb) _
        refine ⟨hx4, _, hi2.at, fun x hx' => ?_⟩
        simp only [List.mem_cons, vblocks, List.not_mem_nil, or_false] at hx'
        rcases hx' with rfl | rfl | rfl | rfl
        · exact hF _ hb
        · exact hF _ h1
        · exact hF _ h3
        · exact hF _ h4

theorem lose_any (b : Nat) (F : List Nat) (D : Dv) (k : Int) (w : World) (h : DevAt w b F D) :
    Calls Try.prog 28 #[.pointer (some ⟨b, 0, none⟩), .int .i64 k] w fun e w' => e = .returned (.tuple #[]) ∧ DevTo w w' b F (loseD k D) := by
  obtain ⟨m1, m3, m4, sv, hi, hb, h1, h3, h4, hs⟩ := h
  obtain ⟨c0, _, _, c3, _, _, _⟩ := hi.c
  by_cases hr : 0 ≤ k ∧ k < D.size
  · have HD : Hid (loseD k D = { D with lost := setF D.lost k true }) := by show _ = _; rw [loseD, if_pos hr]
    obtain ⟨hr0, hr1⟩ := hr
    go_enter Try.func28, Try.ntmps28
    go_wp2_with (first | ((with_reducible refine wpl_mapset Try.underlying84 Try.underlying3 hi.lost k (.bool true) ?_ ?_ ?_ ?_)))
    all_goals try rfl
    intro w1 hm1 hx1
    have hi1 := hi.setLost k true hm1 hx1
    have hx2 : Ext F w w1 := hx1.mono (fun x hx' => by simp at hx'; subst hx'; exact .inl h3)
    clear c0 c3 hm1 hx1 hi
    go_wp2
    go_end0
    exact ⟨rfl, by rw [HD.out]; exact DevTo.of hx2 hi1 hb h1 h3 h4 (fun x hx' => .inl (hs x hx'))⟩
  · have HD : Hid (loseD k D = D) := by show _ = _; rw [loseD, if_neg hr]
    by_cases hk : 0 ≤ k
    · have hk2 : ¬ k < D.size := fun h => hr ⟨hk, h⟩
      clear hr
      go_enter Try.func28, Try.ntmps28
      go_wp2
      go_end0
      exact ⟨rfl, by rw [HD.out]; exact DevTo.of (Ext.refl _ _) hi hb h1 h3 h4 (fun x hx' => .inl (hs x hx'))⟩
    · clear hr
      go_enter Try.func28, Try.ntmps28
      go_wp2
      go_end0
      exact ⟨rfl, by rw [HD.out]; exact DevTo.of (Ext.refl _ _) hi hb h1 h3 h4 (fun x hx' => .inl (hs x hx'))⟩
end Go.Proofs.Ytmjgbkepngeckaa
