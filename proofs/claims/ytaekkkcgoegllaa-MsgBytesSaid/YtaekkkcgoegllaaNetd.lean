/- container/heap over letters: the walks of up and down. -/
import Derived.Test.YtaekkkcgoegllaaNetc
namespace Go.Proofs.Ytaekkkcgoegllaa
open Go.RowKit
set_option linter.unusedVariables false
set_option linter.unusedSimpArgs false

theorem met_len' (p : Addr) (v : Value) (w : World) (h : w.cell? p = some v) : Sem.run Try.prog (method 215 72 (.pointer (some p)) "Len") w = .ok (63, v) w := met_len p v w h
theorem met_less' (p : Addr) (v : Value) (w : World) (h : w.cell? p = some v) : Sem.run Try.prog (method 215 72 (.pointer (some p)) "Less") w = .ok (64, v) w := met_less p v w h
theorem met_swap' (p : Addr) (v : Value) (w : World) (h : w.cell? p = some v) : Sem.run Try.prog (method 215 72 (.pointer (some p)) "Swap") w = .ok (65, v) w := met_swap p v w h
theorem met_push' (p : Value) (w : World) : Sem.run Try.prog (method 215 72 p "Push") w = .ok (69, p) w := met_push p w
theorem met_pop' (p : Value) (w : World) : Sem.run Try.prog (method 215 72 p "Pop") w = .ok (68, p) w := met_pop p w
theorem NetAt.less {w : World} {b g off n c : Nat} {now seq : Int} {L : List Lt} (h : NetAt w b (.slice (some ⟨g, off, none⟩) n c) now seq L) (i j : Nat) (hi : i < L.length) (hj : j < L.length) :
    Calls Try.prog 64 #[.slice (some ⟨g, off, none⟩) n c, .int .i64 (i : Int), .int .i64 (j : Int)] w fun e w' => e = .returned (.bool (ltL L[i] L[j])) ∧ Ext [] w w' := by
  have ho := h.own
  have hn : n = L.length := by
    rcases h.own.2 with ⟨h', _⟩ | ⟨g', off', cap', cur, fz, h', _⟩
    · simp at h'
    · simp only [Value.slice.injEq] at h'
      exact h'.2.1
  rw [← hn] at ho
  exact less_any g off n c L i j w ho hi hj
theorem NetAt.swapc {w : World} {b g off n c : Nat} {now seq : Int} {L : List Lt} (h : NetAt w b (.slice (some ⟨g, off, none⟩) n c) now seq L) (i j : Nat) (hi : i < L.length) (hj : j < L.length) :
    Calls Try.prog 65 #[.slice (some ⟨g, off, none⟩) n c, .int .i64 (i : Int), .int .i64 (j : Int)] w fun e w' => e = .returned (.tuple #[]) ∧ Ext [g] w w' ∧ NetAt w' b (.slice (some ⟨g, off, none⟩) n c) now seq (swp L i j) := by
  have ho := h.own
  have hn : n = L.length := by
    rcases h.own.2 with ⟨h', _⟩ | ⟨g', off', cap', cur, fz, h', _⟩
    · simp at h'
    · simp only [Value.slice.injEq] at h'
      exact h'.2.1
  rw [← hn] at ho
  refine (swap_any g off n c L i j w ho hi hj).mono ?_
  rintro e w' ⟨rfl, hx, ho'⟩
  have hgb : b ≠ g := fun e => h.sep g (by simp [vblocks]) e.symm
  refine ⟨rfl, hx, h.blk.keep hx (by simp [hgb]), ?_, h.sep⟩
  rw [swp_length, ← hn]; exact ho'
theorem upL_step (j : Nat) (L : List Lt) (hj : j + 1 < L.length) : upL ltL (j + 1) L = if ltL L[j + 1] (L[j / 2]'(by omega)) then upL ltL (j / 2) (swp L (j / 2) (j + 1)) else L := by
  rw [upL, List.getElem?_eq_getElem hj, List.getElem?_eq_getElem (by omega : j / 2 < L.length)]
set_option maxRecDepth 100000 in
set_option maxHeartbeats 6400000 in
theorem up_any (b g off n c : Nat) (now seq : Int) (L : List Lt) (j : Nat) (w : World) (h : NetAt w b (.slice (some ⟨g, off, none⟩) n c) now seq L) (hj : j < L.length) (hl : L.length ≤ 100000) :
    Calls Try.prog 41 #[.iface 72 (.pointer (some ⟨b, 0, none⟩)), .int .i64 (j : Int)] w fun e w' => e = .returned (.tuple #[]) ∧ Ext [g] w w' ∧ NetAt w' b (.slice (some ⟨g, off, none⟩) n c) now seq (upL ltL j L) := by
  have eL := ent_less
  have eS := ent_swap
  obtain ⟨N, hN⟩ : ∃ N, N = L.length := ⟨_, rfl⟩
  rw [← hN] at hl hj
  obtain ⟨R, hR⟩ : ∃ R, R = upL ltL j L := ⟨_, rfl⟩
  rw [← hR]
  go_enter Try.func41, Try.ntmps41
  go_wp2
  go_loopw [1] (fun u1 wr => ∃ (k : Nat) (L' : List Lt), u1 = .int .i64 (k : Int) ∧ k < N ∧ Hid (NetAt wr b (.slice (some ⟨g, off, none⟩) n c) now seq L') ∧ Hid (Ext [g] w wr) ∧ Hid (upL ltL k L' = R) ∧ Hid (L'.length = N)) (fun u1 _ => (intOf u1).toNat)
  case atStart => exact ⟨j, L, rfl, hj, h, Ext.refl _ _, hR.symm, hN.symm⟩
  case round =>
    obtain ⟨k, L', rfl, hk, hA, hX, hU, hLen⟩ := hrel
    cases k with
    | zero =>
      go_wp2
      go_end0
      exact ⟨rfl, hX.out, by have := hU.out; rw [upL] at this; rw [← this]; exact hA.out⟩
    | succ k =>
      have hk1 : k + 1 < L'.length := by rw [hLen.out]; exact hk
      have hk2 : k / 2 < L'.length := by omega
      have hst := upL_step k L' hk1
      have mL := met_less' ⟨b, 0, none⟩ _ wr hA.out.c.1
      have cl := hA.out.less (k + 1) (k / 2) hk1 hk2
      rw [show ((k + 1 : Nat) : Int) = (k : Int) + 1 from by omega, show ((k / 2 : Nat) : Int) = (k : Int) / 2 from by omega] at cl
      have hne : ¬ (k : Int) / 2 = (k : Int) + 1 := by omega
      cases hlv : ltL L'[k + 1] L'[k / 2] with
      | true =>
        rw [hlv] at cl hst
        have HS := Hid.of hst
        clear hst hlv
        go_wp2_with (first
          | (go_at_fn 64; refine cl.mono ?_; rintro e w2 ⟨rfl, hx⟩; have hA2 := hA.out.keep0 hx; have mS := met_swap' ⟨b, 0, none⟩ _ w2 hA2.c.1; have cs := hA2.swapc (k / 2) (k + 1) hk2 hk1; rw [show ((k + 1 : Nat) : Int) = (k : Int) + 1 from by omega, show ((k / 2 : Nat) : Int) = (k : Int) / 2 from by omega] at cs; have HX := Hid.of hx; clear hx hA2)
          | (go_at_fn 65; refine cs.mono ?_; rintro e w3 ⟨rfl, hx3, hA3⟩))
        go_roundw
        case rel => exact ⟨k / 2, swp L' (k / 2) (k + 1), by congr 1, by omega, hA3, (hX.out.trans (HX.out.mono (by simp)) (fun k hk => .inl hk)).trans hx3 (fun k hk => .inl hk), by rw [← hU.out, HS.out]; rfl, by rw [swp_length]; exact hLen.out⟩
        case measure => simp [intOf]; omega
      | false =>
        rw [hlv] at cl hst
        have HS := Hid.of hst
        clear hst hlv
        go_wp2_with (go_at_fn 64; refine cl.mono ?_; rintro e w2 ⟨rfl, hx⟩)
        go_end0
        exact ⟨rfl, hX.out.trans (hx.mono (by simp)) (fun k hk => .inl hk), by rw [← hU.out, HS.out]; exact hA.out.keep0 hx⟩
theorem downL_end (n i : Nat) (L : List Lt) (h : ¬ 2 * i + 1 < n) : downL ltL n i L = L := by rw [downL, dif_neg h]
theorem downL_step (n i : Nat) (L : List Lt) (h : 2 * i + 1 < n) (hn : n ≤ L.length) (c : Nat) (hc : childL ltL n i L = c) (hcl : c < L.length) : downL ltL n i L = if ltL L[c] (L[i]'(by omega)) then downL ltL n c (swp L i c) else L := by
  subst hc
  rw [downL, dif_pos h, List.getElem?_eq_getElem hcl, List.getElem?_eq_getElem (by omega : i < L.length)]
theorem childL_two (n i : Nat) (L : List Lt) (h : 2 * i + 2 < n) (hn : n ≤ L.length) : childL ltL n i L = if ltL (L[2 * i + 2]'(by omega)) (L[2 * i + 1]'(by omega)) then 2 * i + 2 else 2 * i + 1 := by
  unfold childL
  rw [if_pos h, List.getElem?_eq_getElem (by omega : 2 * i + 2 < L.length), List.getElem?_eq_getElem (by omega : 2 * i + 1 < L.length)]
theorem childL_one (n i : Nat) (L : List Lt) (h : ¬ 2 * i + 2 < n) : childL ltL n i L = 2 * i + 1 := by
  unfold childL; rw [if_neg h]
set_option maxRecDepth 100000 in
set_option maxHeartbeats 6400000 in
theorem down_any (b g off n c : Nat) (now seq : Int) (L : List Lt) (m : Nat) (w : World) (h : NetAt w b (.slice (some ⟨g, off, none⟩) n c) now seq L) (hm : m ≤ L.length) (hl : L.length ≤ 100000) :
    Calls Try.prog 42 #[.iface 72 (.pointer (some ⟨b, 0, none⟩)), .int .i64 0, .int .i64 (m : Int)] w fun e w' => (∃ r, e = .returned r) ∧ Ext [g] w w' ∧ NetAt w' b (.slice (some ⟨g, off, none⟩) n c) now seq (downL ltL m 0 L) := by
  have eL := ent_less
  have eS := ent_swap
  obtain ⟨N, hN⟩ : ∃ N, N = L.length := ⟨_, rfl⟩
  rw [← hN] at hl hm
  obtain ⟨R, hR⟩ : ∃ R, R = downL ltL m 0 L := ⟨_, rfl⟩
  rw [← hR]
  go_enter Try.func42, Try.ntmps42
  go_wp2
  go_loopw [7] (fun u7 wr => ∃ (k : Nat) (L' : List Lt), u7 = .int .i64 (k : Int) ∧ k ≤ N ∧ Hid (NetAt wr b (.slice (some ⟨g, off, none⟩) n c) now seq L') ∧ Hid (Ext [g] w wr) ∧ Hid (downL ltL m k L' = R) ∧ Hid (L'.length = N)) (fun u7 _ => N - (intOf u7).toNat)
  case atStart => exact ⟨0, L, rfl, by omega, h, Ext.refl _ _, hR.symm, hN.symm⟩
  case round =>
    obtain ⟨k, L', rfl, hk, hA, hX, hU, hLen⟩ := hrel
    by_cases h1 : 2 * k + 1 < m
    · have hL1 : 2 * k + 1 < L'.length := by rw [hLen.out]; omega
      have hL0 : k < L'.length := by omega
      have hmL : m ≤ L'.length := by rw [hLen.out]; exact hm
      have i1 : 2 * (k : Int) + 1 < (m : Int) := by omega
      have i2 : ¬ (m : Int) ≤ 2 * (k : Int) + 1 := by omega
      have i3 : ¬ 2 * (k : Int) + 1 < 0 := by omega
      have mL := met_less' ⟨b, 0, none⟩ _ wr hA.out.c.1
      by_cases h2 : 2 * k + 2 < m
      · have cl := hA.out.less (2 * k + 2) (2 * k + 1) (by omega) hL1
        rw [show ((2 * k + 2 : Nat) : Int) = 2 * (k : Int) + 1 + 1 from by omega, show ((2 * k + 1 : Nat) : Int) = 2 * (k : Int) + 1 from by omega] at cl
        have i4 : 2 * (k : Int) + 1 + 1 < (m : Int) := by omega
        have hch := childL_two m k L' h2 hmL
        cases hlv : ltL (L'[2 * k + 2]'(by omega)) (L'[2 * k + 1]'(by omega)) with
        | true =>
          rw [hlv] at cl hch
          clear hlv
          have hc : 2 * k + 2 < L'.length := by omega
          have hst := downL_step m k L' h1 hmL (2 * k + 2) hch hc
          have ec : ((2 * k + 2 : Nat) : Int) = 2 * (k : Int) + 1 + 1 := by omega
          cases hv2 : ltL (L'[2 * k + 2]'hc) (L'[k]'hL0) with
          | true =>
            rw [hv2] at hst
            have HS := Hid.of hst
            have HV := Hid.of hv2
            have HE := Hid.of ec
            clear hst hch hv2 ec
            go_wp2_with (first
              | (go_at_fn 64; (with_reducible refine cl.mono ?_); rintro e w2 ⟨rfl, hx⟩; have hA2 := hA.out.keep0 hx; have mL2 := met_less' ⟨b, 0, none⟩ _ w2 hA2.c.1; have c2 := hA2.less (2 * k + 2) k hc hL0; rw [HV.out, HE.out] at c2; have HX := Hid.of hx; clear hx mL)
              | (go_at_fn 64; (with_reducible refine c2.mono ?_); rintro e w3 ⟨rfl, hx3⟩; have hA3 := hA2.keep0 hx3; have mS := met_swap' ⟨b, 0, none⟩ _ w3 hA3.c.1; have cs := hA3.swapc k (2 * k + 2) hL0 hc; rw [HE.out] at cs; have HX3 := Hid.of hx3; clear hx3)
              | (go_at_fn 65; (with_reducible refine cs.mono ?_); rintro e w4 ⟨rfl, hx4, hA4⟩))
            go_roundw
            case rel => exact ⟨2 * k + 2, swp L' k (2 * k + 2), by rw [HE.out], by omega, hA4, ((hX.out.trans (HX.out.mono (by simp)) (fun k hk => .inl hk)).trans (HX3.out.mono (by simp)) (fun k hk => .inl hk)).trans hx4 (fun k hk => .inl hk), by rw [← hU.out, HS.out]; rfl, by rw [swp_length]; exact hLen.out⟩
            case measure => simp [intOf]; omega
          | false =>
            rw [hv2] at hst
            have HS := Hid.of hst
            have HV := Hid.of hv2
            have HE := Hid.of ec
            clear hst hch hv2 ec
            go_wp2_with (first
              | (go_at_fn 64; (with_reducible refine cl.mono ?_); rintro e w2 ⟨rfl, hx⟩; have hA2 := hA.out.keep0 hx; have mL2 := met_less' ⟨b, 0, none⟩ _ w2 hA2.c.1; have c2 := hA2.less (2 * k + 2) k hc hL0; rw [HV.out, HE.out] at c2; have HX := Hid.of hx; clear hx mL)
              | (go_at_fn 64; (with_reducible refine c2.mono ?_); rintro e w3 ⟨rfl, hx3⟩))
            go_ret
            exact ⟨⟨_, rfl⟩, (hX.out.trans (HX.out.mono (by simp)) (fun k hk => .inl hk)).trans (hx3.mono (by simp)) (fun k hk => .inl hk), by rw [← hU.out, HS.out]; exact hA2.keep0 hx3⟩
        | false =>
          rw [hlv] at cl hch
          clear hlv
          have hc : 2 * k + 1 < L'.length := by omega
          have hst := downL_step m k L' h1 hmL (2 * k + 1) hch hc
          have ec : ((2 * k + 1 : Nat) : Int) = 2 * (k : Int) + 1 := by omega
          cases hv2 : ltL (L'[2 * k + 1]'hc) (L'[k]'hL0) with
          | true =>
            rw [hv2] at hst
            have HS := Hid.of hst
            have HV := Hid.of hv2
            have HE := Hid.of ec
            clear hst hch hv2 ec
            go_wp2_with (first
              | (go_at_fn 64; (with_reducible refine cl.mono ?_); rintro e w2 ⟨rfl, hx⟩; have hA2 := hA.out.keep0 hx; have mL2 := met_less' ⟨b, 0, none⟩ _ w2 hA2.c.1; have c2 := hA2.less (2 * k + 1) k hc hL0; rw [HV.out, HE.out] at c2; have HX := Hid.of hx; clear hx mL)
              | (go_at_fn 64; (with_reducible refine c2.mono ?_); rintro e w3 ⟨rfl, hx3⟩; have hA3 := hA2.keep0 hx3; have mS := met_swap' ⟨b, 0, none⟩ _ w3 hA3.c.1; have cs := hA3.swapc k (2 * k + 1) hL0 hc; rw [HE.out] at cs; have HX3 := Hid.of hx3; clear hx3)
              | (go_at_fn 65; (with_reducible refine cs.mono ?_); rintro e w4 ⟨rfl, hx4, hA4⟩))
            go_roundw
            case rel => exact ⟨2 * k + 1, swp L' k (2 * k + 1), by rw [HE.out], by omega, hA4, ((hX.out.trans (HX.out.mono (by simp)) (fun k hk => .inl hk)).trans (HX3.out.mono (by simp)) (fun k hk => .inl hk)).trans hx4 (fun k hk => .inl hk), by rw [← hU.out, HS.out]; rfl, by rw [swp_length]; exact hLen.out⟩
            case measure => simp [intOf]; omega
          | false =>
            rw [hv2] at hst
            have HS := Hid.of hst
            have HV := Hid.of hv2
            have HE := Hid.of ec
            clear hst hch hv2 ec
            go_wp2_with (first
              | (go_at_fn 64; (with_reducible refine cl.mono ?_); rintro e w2 ⟨rfl, hx⟩; have hA2 := hA.out.keep0 hx; have mL2 := met_less' ⟨b, 0, none⟩ _ w2 hA2.c.1; have c2 := hA2.less (2 * k + 1) k hc hL0; rw [HV.out, HE.out] at c2; have HX := Hid.of hx; clear hx mL)
              | (go_at_fn 64; (with_reducible refine c2.mono ?_); rintro e w3 ⟨rfl, hx3⟩))
            go_ret
            exact ⟨⟨_, rfl⟩, (hX.out.trans (HX.out.mono (by simp)) (fun k hk => .inl hk)).trans (hx3.mono (by simp)) (fun k hk => .inl hk), by rw [← hU.out, HS.out]; exact hA2.keep0 hx3⟩
      · have i4 : ¬ 2 * (k : Int) + 1 + 1 < (m : Int) := by omega
        have hch := childL_one m k L' h2
        have hc : 2 * k + 1 < L'.length := by omega
        have hst := downL_step m k L' h1 hmL (2 * k + 1) hch hc
        have ec : ((2 * k + 1 : Nat) : Int) = 2 * (k : Int) + 1 := by omega
        cases hv2 : ltL (L'[2 * k + 1]'hc) (L'[k]'hL0) with
        | true =>
          rw [hv2] at hst
          have HS := Hid.of hst
          have HV := Hid.of hv2
          have HE := Hid.of ec
          clear hst hch hv2 ec
          obtain ⟨w2, hw2⟩ : ∃ x, x = wr := ⟨_, rfl⟩
          have HX : Hid (Ext [] wr w2) := by rw [hw2]; exact Ext.refl _ _
          have hA2 := hA.out
          rw [← hw2] at hA2
          have mL2 := met_less' ⟨b, 0, none⟩ _ w2 hA2.c.1
          have c2 := hA2.less (2 * k + 1) k hc hL0
          rw [HV.out, HE.out] at c2
          rw [hw2] at mL2 c2
          have HW := Hid.of hw2
          clear mL hw2
          go_wp2_with (first
            | (go_at_fn 64; (with_reducible refine c2.mono ?_); rintro e w3 ⟨rfl, hx3⟩; rw [← HW.out] at hx3; have hA3 := hA2.keep0 hx3; have mS := met_swap' ⟨b, 0, none⟩ _ w3 hA3.c.1; have cs := hA3.swapc k (2 * k + 1) hL0 hc; rw [HE.out] at cs; have HX3 := Hid.of hx3; clear hx3)
            | (go_at_fn 65; (with_reducible refine cs.mono ?_); rintro e w4 ⟨rfl, hx4, hA4⟩))
          go_roundw
          case rel => exact ⟨2 * k + 1, swp L' k (2 * k + 1), by rw [HE.out], by omega, hA4, ((hX.out.trans (HX.out.mono (by simp)) (fun k hk => .inl hk)).trans (HX3.out.mono (by simp)) (fun k hk => .inl hk)).trans hx4 (fun k hk => .inl hk), by rw [← hU.out, HS.out]; rfl, by rw [swp_length]; exact hLen.out⟩
          case measure => simp [intOf]; omega
        | false =>
          rw [hv2] at hst
          have HS := Hid.of hst
          have HV := Hid.of hv2
          have HE := Hid.of ec
          clear hst hch hv2 ec
          obtain ⟨w2, hw2⟩ : ∃ x, x = wr := ⟨_, rfl⟩
          have HX : Hid (Ext [] wr w2) := by rw [hw2]; exact Ext.refl _ _
          have hA2 := hA.out
          rw [← hw2] at hA2
          have mL2 := met_less' ⟨b, 0, none⟩ _ w2 hA2.c.1
          have c2 := hA2.less (2 * k + 1) k hc hL0
          rw [HV.out, HE.out] at c2
          rw [hw2] at mL2 c2
          have HW := Hid.of hw2
          clear mL hw2
          go_wp2_with (first
            | (go_at_fn 64; (with_reducible refine c2.mono ?_); rintro e w3 ⟨rfl, hx3⟩; rw [← HW.out] at hx3))
          go_ret
          exact ⟨⟨_, rfl⟩, (hX.out.trans (HX.out.mono (by simp)) (fun k hk => .inl hk)).trans (hx3.mono (by simp)) (fun k hk => .inl hk), by rw [← hU.out, HS.out]; exact hA2.keep0 hx3⟩
    · have i2 : (m : Int) ≤ 2 * (k : Int) + 1 := by omega
      have HE := Hid.of (downL_end m k L' h1)
      go_wp2
      go_ret
      exact ⟨⟨_, rfl⟩, hX.out, by rw [← hU.out, HE.out]; exact hA.out⟩
end Go.Proofs.Ytaekkkcgoegllaa
