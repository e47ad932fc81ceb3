/- DevFalls: the walk. -/
import Derived.Test.YtpnfgkgloioddaaDevN
import Derived.Test.YtpnfgkgloioddaaBits
namespace Go.Proofs.Ytpnfgkgloioddaa
open Go.RowKit
set_option linter.unusedVariables false
attribute [local go_sem] i64_and31
attribute [local go_sem high] run_min2

def xs (m : Nat) : List (Int × List UInt8) := (List.range m).map fun (j : Nat) => ((j : Int), [120])
theorem xs_succ (m : Nat) : xs (m + 1) = xs m ++ [((m : Int), [120])] := by simp [xs, List.range_succ]
theorem xs_length (m : Nat) : (xs m).length = m := by simp [xs]
/-- The device when i writes were tried, the power failing at the n-th. -/
def df (n i : Nat) : Dv := { newD 32 with since := xs (min i n), fall := (n : Int) - (min i n : Nat), down := decide (n < i) }
theorem df_zero (n : Nat) : fallD n (newD 32) = df n 0 := by
  show Dv.mk _ _ _ _ _ _ _ = Dv.mk _ _ _ _ _ _ _
  simp [newD, xs]
theorem df_write (n i : Nat) (hi : i < 32) : writeE i [120] (df n i) = (if n ≤ i then 5 else 0) ∧ writeD i [120] (df n i) = df n (i + 1) := by
  by_cases h : n ≤ i
  · have ht : turnE (df n i) = 5 := by
      rw [turnE, if_pos]
      by_cases h2 : n < i
      · left; simp [df, h2]
      · right; show (n : Int) - (min i n : Nat) = 0; omega
    have hE : writeE i [120] (df n i) = 5 := by rw [writeE, if_pos ht]
    refine ⟨by rw [hE, if_pos h], ?_⟩
    rw [writeD, hE, if_neg (by decide)]
    unfold turnD
    by_cases h2 : n < i
    · rw [if_pos (by simp [df, h2])]
      show Dv.mk _ _ _ _ _ _ _ = Dv.mk _ _ _ _ _ _ _
      congr 1
      · rw [show min i n = min (i + 1) n by omega]
      · rw [show min i n = min (i + 1) n by omega]
      · simp; omega
    · have hin : i = n := by omega
      subst hin
      rw [if_neg (by simp [df]), if_pos (by show (i : Int) - (min i i : Nat) = 0; omega)]
      show Dv.mk _ _ _ _ _ _ _ = Dv.mk _ _ _ _ _ _ _
      congr 1
      · show xs (min i i) = _; rw [show min i i = min (i + 1) i by omega]
      · show (i : Int) - (min i i : Nat) = _; rw [show min i i = min (i + 1) i by omega]
      · simp
  · have hd : (df n i).down = false := by show decide (n < i) = false; simp; omega
    have hf : (df n i).fall = (n : Int) - i := by show (n : Int) - (min i n : Nat) = _; omega
    have ht : turnE (df n i) = 0 := by rw [turnE, if_neg]; rw [hd, hf]; simp; omega
    have hE : writeE i [120] (df n i) = 0 := by
      rw [writeE, ht, if_neg (by decide), if_neg (by show ¬ ((i : Int) < 0 ∨ (32 : Int) ≤ i); omega), if_neg (by decide)]
    refine ⟨by rw [hE, if_neg h], ?_⟩
    rw [writeD, if_pos hE]
    unfold turnD
    rw [if_neg (by rw [hd]; decide), if_neg (by rw [hf]; omega), if_pos (by rw [hf]; omega)]
    show Dv.mk _ _ _ _ _ _ _ = Dv.mk _ _ _ _ _ _ _
    congr 1
    · show xs (min i n) ++ [((i : Int), [120])] = xs (min (i + 1) n)
      rw [show min i n = i by omega, show min (i + 1) n = i + 1 by omega, xs_succ]
    · funext x
      show setF _ _ false x = false
      unfold setF df newD; simp
    · show (n : Int) - (min i n : Nat) - 1 = (n : Int) - (min (i + 1) n : Nat); omega
    · show decide (n < i) = decide (n < i + 1)
      simp; omega
theorem df_since (n i : Nat) : (df n i).since.length ≤ i := by show (xs (min i n)).length ≤ i; rw [xs_length]; omega
theorem df_read (n i : Nat) (hi : i < 32) : readE i (df n (i + 1)) = if n ≤ i then 5 else 0 := by
  by_cases h : n ≤ i
  · rw [readE, if_pos (by show decide (n < i + 1) = true; simp; omega), if_pos h]
  · rw [readE, if_neg (by show ¬ decide (n < i + 1) = true; simp; omega), if_neg (by show ¬ ((i : Int) < 0 ∨ (32 : Int) ≤ i); omega), if_neg h]; rfl
theorem df_down (n i : Nat) : (df n (i + 1)).down = decide (n ≤ i) := by show decide (n < i + 1) = _; rw [decide_eq_decide]; omega
theorem fates_kept (fs : List Int) : ∀ (l : List (Int × List UInt8)) (i : Nat) (D : Dv), (∀ j, j < l.length → fs.getD (i + j) 0 = 1) → fatesD fs i l D = putsD l D
  | [], _, _, _ => rfl
  | c :: l, i, D, h => by
    have h0 := h 0 (by simp)
    rw [Nat.add_zero] at h0
    show fatesD fs (i + 1) l (fateD (fs.getD i 0) c D) = putsD l (putD c.1 c.2 D)
    rw [fates_kept fs l (i + 1) _ (fun j hj => by rw [Nat.add_right_comm, Nat.add_assoc]; exact h (j + 1) (by simp; omega)), fateD, if_pos h0]
theorem puts_xs (D : Dv) (m : Nat) (k : Int) : (putsD (xs m) D).safe k = if 0 ≤ k ∧ k < m then [120] else D.safe k := by
  induction m with
  | zero => rw [if_neg (by omega)]; rfl
  | succ m ih =>
    rw [xs_succ, putsD_append]
    show setF (putsD (xs m) D).safe m [120] k = _
    unfold setF
    by_cases h : k = m
    · rw [if_pos h, if_pos (by omega)]
    · rw [if_neg h, ih]
      by_cases h2 : 0 ≤ k ∧ k < m
      · rw [if_pos h2, if_pos (by omega)]
      · rw [if_neg h2, if_neg (by omega)]
theorem df_crash (n m k : Nat) (hk : k < 32) : readE k (crashD (List.replicate m 1) (df n m)) = 0 ∧ readV k (crashD (List.replicate m 1) (df n m)) = if k < min n m then [120] else [] := by
  obtain ⟨h1, h2, h3, h4, h5⟩ := crashD_size (List.replicate m 1) (df n m)
  have he : readE k (crashD (List.replicate m 1) (df n m)) = 0 := by
    rw [readE, h5, if_neg (by decide), h1, if_neg (by show ¬ ((k : Int) < 0 ∨ min (max 32 0) 4096 ≤ (k : Int)); omega), h3]; rfl
  refine ⟨he, ?_⟩
  rw [readV, if_pos he, contD, h2]
  show (crashD (List.replicate m 1) (df n m)).safe k = _
  rw [crashD, fates_kept _ _ _ _ (fun j hj => by
    have hj2 : j < m := by have : (df n m).since.length ≤ m := df_since n m; omega
    rw [Nat.zero_add, List.getD, List.getElem?_replicate, if_pos hj2]; rfl)]
  show (putsD (xs (min m n)) _).safe k = _
  rw [puts_xs]
  by_cases h : k < min n m
  · rw [if_pos h, if_pos (by omega)]
  · rw [if_neg h, if_neg (by omega)]; rfl
theorem df_crash_write (n m : Nat) : writeE 0 [121] (crashD (List.replicate m 1) (df n m)) = 0 := by
  obtain ⟨h1, h2, h3, h4, h5⟩ := crashD_size (List.replicate m 1) (df n m)
  have ht : turnE (crashD (List.replicate m 1) (df n m)) = 0 := by rw [turnE, h4, h5]; rfl
  rw [writeE, ht, if_neg (by decide), h1, if_neg (by show ¬ ((0 : Int) < 0 ∨ min (max 32 0) 4096 ≤ (0 : Int)); omega), if_neg (by decide)]

theorem el_fate : Elem Try.prog 23 29 (.int .i64 0) 1 8 := Elem.mk' Try.underlying23 rfl (by kernel_rfl)

set_option maxRecDepth 100000 in
set_option maxHeartbeats 3200000 in
theorem falls_any (n0 : Int) (_ : -9223372036854775808 ≤ n0 ∧ n0 ≤ 9223372036854775807) (m0 : Int) (_ : -9223372036854775808 ≤ m0 ∧ m0 ≤ 9223372036854775807) (w : World) :
    Calls Try.prog 4 #[.int .i64 n0, .int .i64 m0] w fun e w' => e = .returned (.bool true) ∧ Ext [] w w' := by
  obtain ⟨n, hn⟩ : ∃ n : Nat, n0 % 32 = (n : Int) := ⟨(n0 % 32).toNat, by omega⟩
  obtain ⟨m, hm⟩ : ∃ n : Nat, m0 % 32 = (n : Int) := ⟨(m0 % 32).toNat, by omega⟩
  have hn31 : n ≤ 31 := by omega
  have hm31 : m ≤ 31 := by omega
  go_enter Try.func4, Try.ntmps4
  go_wp2_with fail
  refine (head3_any w).mono ?_
  rintro e w1 ⟨rfl, hx⟩
  go_wp2_with fail
  refine (new_n 32 w w1 hx).mono ?_
  rintro e w2 ⟨b, rfl, hd, hx2⟩
  clear hx hx2
  go_wp2_with fail
  refine (fall_n b _ n w w2 hd (by omega)).mono ?_
  rintro e w3 ⟨rfl, hd3⟩
  rw [df_zero] at hd3
  clear hd
  go_wp2
  go_loopw [6] (fun i wr => ∃ k : Nat, k ≤ m ∧ i = .int .i64 k ∧ DevN w wr b (df n k)) (fun i _ => m - (intOf i).toNat)
  case atStart => exact ⟨0, by omega, rfl, hd3⟩
  case round =>
    clear hd3
    obtain ⟨k, hk, rfl, hd⟩ := hrel
    by_cases hlt : k < m
    · obtain ⟨h1, h2⟩ := df_write n k (by omega)
      have h3 := df_read n k (by omega)
      have h4 := df_down n k
      have cw := write_n b (df n k) k [120] w wr hd (by have := df_since n k; omega)
      rw [h1, h2] at cw
      have cd := fun W (h : DevN w W b (df n (k + 1))) => down_n b (df n (k + 1)) w W h
      rw [h4] at cd
      have cr := fun W (h : DevN w W b (df n (k + 1))) => dread_n b (df n (k + 1)) k w W h
      rw [h3] at cr
      obtain ⟨v, hv⟩ : ∃ v, v = readV k (df n (k + 1)) := ⟨_, rfl⟩
      rw [← hv] at cr
      clear h1 h2 h3 h4 hd hv
      by_cases hge : n ≤ k
      · rw [if_pos hge] at cw cr
        have e1 : decide (n ≤ k) = true := by simpa using hge
        rw [e1] at cd
        clear e1
        go_wp2_with fail
        refine cw.mono ?_
        rintro e w4 ⟨rfl, hd4⟩
        go_wp2_with fail
        refine (cd w4 hd4).mono ?_
        rintro e w5 ⟨rfl, rfl⟩
        go_wp2_with fail
        refine (cr w4 hd4).mono ?_
        rintro e w6 ⟨rfl, hd6, hx6⟩
        clear cw cd cr hd4 hx6
        go_wp2
        go_roundw
        case rel => exact ⟨k + 1, by omega, by go_num, hd6⟩
        case measure => simp [intOf]; omega
      · rw [if_neg hge] at cw cr
        have e1 : decide (n ≤ k) = false := by simpa using hge
        rw [e1] at cd
        clear e1
        go_wp2_with fail
        refine cw.mono ?_
        rintro e w4 ⟨rfl, hd4⟩
        go_wp2_with fail
        refine (cd w4 hd4).mono ?_
        rintro e w5 ⟨rfl, rfl⟩
        go_wp2_with fail
        refine (cr w4 hd4).mono ?_
        rintro e w6 ⟨rfl, hd6, hx6⟩
        clear cw cd cr hd4 hx6
        go_wp2
        go_roundw
        case rel => exact ⟨k + 1, by omega, by go_num, hd6⟩
        case measure => simp [intOf]; omega
    · obtain rfl : k = m := by omega
      clear hlt hk
      have hsz := hd.ext.size
      go_wp2
      go_loopw [10, 11] (fun v i wr => ∃ j : Nat, j ≤ k ∧ i = .int .i64 j ∧ Own wr 29 1 v j ((List.replicate j (1 : Int)).map (Value.int .i64)) ∧ (∀ x ∈ vblocks v, w.heap.size ≤ x) ∧ ∃ F, DevAt wr b F (df n k) ∧ (∀ x ∈ F, w.heap.size ≤ x ∧ x < wr.heap.size) ∧ (∀ x ∈ vblocks v, x ∉ F) ∧ Ext [] w wr) (fun _ i _ => k - (intOf i).toNat)
      case atStart =>
        obtain ⟨⟨F0, hF0, hl0⟩, hx, hok⟩ := hd
        obtain ⟨F, hF, hl⟩ := hF0.small
        refine ⟨0, by omega, rfl, Own.lit wr #[] _ 1 0 rfl (by omega), by simp [vblocks]; omega, F, hF.keep0 ((Ext.refl [] _).alloc _), fun x hx' => ⟨hl0 x (hl x hx').1, by have := (hl x hx').2; simp; omega⟩, ?_, hx.alloc _⟩
        intro x hx' hxF
        simp only [vblocks, List.mem_singleton] at hx'
        have := (hl x hxF).2
        omega
      case round =>
        have hok := hd.ok
        clear hd hsz
        obtain ⟨j, hj, rfl, ho, hv, F, hF, hl, hsep, hxr⟩ := hrel
        have hsz := hxr.size
        by_cases hlt : j < k
        · go_wp2_with (first | ((with_reducible refine wpl_append (d := some 67) 29 (.int .i64 0) 1 8 el_fate _ j _ ?_ (ho.alloc _) (.slice (some ⟨wr.heap.size, 0, none⟩) 1 1) 1 ([1].map (Value.int .i64)) ?_ (Rd.ints1 1) (icells_one .i64 [1]) ?_ ?_ ?_)))
          · rfl
          · rfl
          · omega
          · unfold maxLen; omega
          intro v' w' ho' hx' hv' _
          have hx2 : Ext [] w w' := (hxr.alloc _).trans hx' (fun x hx => .inr (hv x hx))
          have hv2 : ∀ x ∈ vblocks v', w.heap.size ≤ x := by
            intro x hx
            rcases hv' with h | h
            · rw [h] at hx; exact hv x hx
            · rw [h] at hx; simp at hx; omega
          have hsep2 : ∀ x ∈ vblocks v', x ∉ F := by
            intro x hx hxF
            have := (hl x hxF).2
            rcases hv' with h | h
            · rw [h] at hx; exact hsep x hx hxF
            · rw [h] at hx; simp at hx; omega
          have hl2 : ∀ x ∈ F, w.heap.size ≤ x ∧ x < w'.heap.size := fun x hx => ⟨(hl x hx).1, by have := (hl x hx).2; have := hx'.size; simp at this; omega⟩
          have hF2 : DevAt w' b F (df n k) := hF.keep ((Ext.refl _ _).alloc _ |>.trans hx' (fun x hx => .inl hx)) (fun x hx hxv => hsep x hxv hx)
          have ho2 : Own w' 29 1 v' (j + 1) ((List.replicate (j + 1) (1 : Int)).map (Value.int .i64)) := by
            rw [List.replicate_succ', List.map_append]; exact ho'
          clear hx' ho' hv' ho hxr hv hF hsep
          go_wp2
          go_roundw
          case rel => exact ⟨j + 1, by omega, by go_num, ho2, hv2, F, hF2, hl2, hsep2, hx2⟩
          case measure => simp [intOf]; omega
        · obtain rfl : j = k := by omega
          have hd : DevN w wr b (df n j) := ⟨⟨F, hF, fun x hx => (hl x hx).1⟩, hxr, hok⟩
          obtain ⟨a, cap, rfl⟩ := ho.rd.isSlice
          have hrd := ho.rd
          clear hlt hj ho hv hF hl hsep hxr hok hsz
          go_wp2_with fail
          refine (crash_n b (df n j) _ _ _ (List.replicate j 1) w _ hd hrd).mono ?_
          rintro e w5 ⟨b2, rfl, hd5, hx5⟩
          clear hd hx5 hrd
          go_wp2
          go_loopw [13] (fun i wr => ∃ k : Nat, k ≤ 32 ∧ i = .int .i64 k ∧ DevN w wr b2 (crashD (List.replicate j 1) (df n j))) (fun i _ => 32 - (intOf i).toNat)
          case atStart => exact ⟨0, by omega, rfl, hd5⟩
          case round =>
            clear hd5
            obtain ⟨k, hk, rfl, hd⟩ := hrel
            by_cases hlt : k < 32
            · obtain ⟨h1, h2⟩ := df_crash n j k hlt
              have cr := dread_n b2 _ k w wr hd
              rw [h1, h2] at cr
              clear h1 h2 hd
              by_cases hge : k < min n j
              · rw [if_pos hge] at cr
                have e1 : (k : Int) < min (n : Int) (j : Int) := by omega
                clear hge
                go_wp2_with fail
                refine cr.mono ?_
                rintro e w6 ⟨rfl, hd6, hx6⟩
                clear cr hx6
                go_wp2
                go_roundw
                case rel => exact ⟨k + 1, by omega, by go_num, hd6⟩
                case measure => simp [intOf]; omega
              · rw [if_neg hge] at cr
                have e1 : ¬ (k : Int) < min (n : Int) (j : Int) := by omega
                clear hge
                go_wp2_with fail
                refine cr.mono ?_
                rintro e w6 ⟨rfl, hd6, hx6⟩
                clear cr hx6
                go_wp2
                go_roundw
                case rel => exact ⟨k + 1, by omega, by go_num, hd6⟩
                case measure => simp [intOf]; omega
            · obtain rfl : k = 32 := by omega
              have hlen : (crashD (List.replicate j 1) (df n j)).since.length ≤ 1000000 := by rw [(crashD_size _ _).2.1]; simp
              have cw := write_n b2 _ 0 [121] w wr hd hlen
              rw [df_crash_write] at cw
              clear hlen hd
              go_wp2_with fail
              refine cw.mono ?_
              rintro e w6 ⟨rfl, hd6⟩
              have hx := hd6.ext
              clear cw hd6
              go_wp2
              go_ret
              exact ⟨rfl, hx⟩
end Go.Proofs.Ytpnfgkgloioddaa
