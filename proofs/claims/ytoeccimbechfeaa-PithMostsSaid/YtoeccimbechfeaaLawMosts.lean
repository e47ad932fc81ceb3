/- PithMosts: the walk. -/
import Derived.Test.YtoeccimbechfeaaLawLays
import Derived.Test.YtoeccimbechfeaaMostsN
namespace Go.Proofs.Ytoeccimbechfeaa
open Go.RowKit
set_option linter.unusedVariables false
attribute [local go_sem high] run_max2 run_min2
attribute [local go_sem] i64_and1 i64_and255 i64_and65535

theorem mosts_long {w0 : World} (n most : Int) (s : List UInt8) (a : Option Addr) (len cap : Nat) (h : 200 < s.length ∨ 20 < len) :
    Calls Try.prog 14 #[.int .i64 n, .int .i64 most, str s, .slice a len cap] w0 fun e w' => e = .returned (.bool true) ∧ Ext [] w0 w' := by
  by_cases h3 : 200 < s.length
  · clear h
    go_enter Try.func14, Try.ntmps14
    go_wp2_with fail
    refine (head1_any w0).mono ?_
    rintro e w1 ⟨rfl, hx⟩
    go_wp2
    all_goals (go_ret; exact ⟨rfl, hx⟩)
  · have h20 : 20 < len := by omega
    clear h
    go_enter Try.func14, Try.ntmps14
    go_wp2_with fail
    refine (head1_any w0).mono ?_
    rintro e w1 ⟨rfl, hx⟩
    go_wp2
    all_goals (go_ret; exact ⟨rfl, hx⟩)

set_option maxRecDepth 100000 in
set_option maxHeartbeats 3200000 in
theorem mosts_any {w0 : World} (n : Int) (_ : -9223372036854775808 ≤ n ∧ n ≤ 9223372036854775807) (most : Int) (_ : -9223372036854775808 ≤ most ∧ most ≤ 9223372036854775807) (s : List UInt8) (_ : s.length ≤ maxLen)
    (a : Option Addr) (len cap : Nat) (ns : List Int) (hR : Rd w0 1 (.slice a len cap) len (ns.map (Value.int .i64))) (hwf : ∀ n ∈ ns, (Lit.int .i64 n).wf = true) :
    Calls Try.prog 14 #[.int .i64 n, .int .i64 most, str s, .slice a len cap] w0 fun e w' => e = .returned (.bool true) ∧ Ext [] w0 w' := by
  by_cases hlong : 200 < s.length ∨ 20 < len
  · exact mosts_long n most s a len cap hlong
  have hs2 : s.length ≤ 200 := by omega
  have hl10 : len ≤ 20 := by omega
  have b1 : decide (200 < (s.length : Int)) = false := by simp; omega
  have b2 : decide (20 < (len : Int)) = false := by simp; omega
  clear hlong hwf
  have hl : ns.length = len := by have := hR.len.2.2.2; simpa using this
  obtain ⟨x, hxn⟩ : ∃ x : Nat, n % 65536 = (x : Int) := ⟨(n % 65536).toNat, by omega⟩
  have hxl : x ≤ 65535 := by omega
  go_enter Try.func14, Try.ntmps14
  go_wp2_with fail
  refine (head1_any w0).mono ?_
  rintro e w1 ⟨rfl, hx⟩
  go_wp2_with fail
  refine (num_any (.slice none 0 0) [] _ 1 1 [(x : Int)] _ (by omega) (by simp) (OwnB.nil _) (Rd.ints1 (x : Int)) (by simp [vblocks])).mono ?_
  rintro e w2 ⟨v1, rfl, ho1, hx1, hv1⟩
  have hE2 : Ext [] w0 w2 := (hx.alloc _).trans hx1 (by simp [vblocks])
  have ho1' : OwnB w2 v1 (be6 x) := by
    rw [List.nil_append, encNums_one, encNum, clamp_nat _ (by omega)] at ho1
    exact ho1
  have hcv := ho1'.str
  clear ho1 ho1' hx hx1 hv1
  go_wp2_with fail
  refine (read_any (be6 x) w2).mono ?_
  rintro e w3 ⟨rfl, h3, hx3⟩
  have hE3 : Ext [] w0 w3 := hE2.then0 hx3
  have hga : w0.heap.size ≤ w2.heap.size := hE2.size
  obtain ⟨g, hgg⟩ : ∃ g, g = w2.heap.size := ⟨_, rfl⟩
  rw [← hgg] at h3 hga ⊢
  clear hgg hx3 hE2 hcv
  go_wp2_with fail
  refine (text_any (.slice none 0 0) [] _ 1 1 [s] _ (by omega) (by simp) (OwnB.nil _) (Rd.strs1' s) (by simp [vblocks])).mono ?_
  rintro e w4 ⟨v2, rfl, ho2, hx4, hv2⟩
  have hx5 : Ext [] w3 w4 := ((Ext.refl [] w3).alloc _).trans hx4 (by simp [vblocks])
  have hE4 : Ext [] w0 w4 := hE3.then0 hx5
  have h4 := h3.keep hx5 (by simp)
  have ho2' : OwnB w4 v2 (be2 s.length ++ s) := by
    rw [List.nil_append, encTexts_one, encText_short _ (by omega)] at ho2
    exact ho2
  have hcv := ho2'.str
  clear ho2 ho2' hx4 hx5 hv2 h3 hE3
  go_wp2_with fail
  refine (read_any (be2 s.length ++ s) w4).mono ?_
  rintro e w5 ⟨rfl, h5, hx5⟩
  have hE5 : Ext [] w0 w5 := hE4.then0 hx5
  have hgb : w0.heap.size ≤ w4.heap.size := hE4.size
  have hgl := h4.lt
  have h5' := h4.keep hx5 (by simp)
  obtain ⟨g', hgg⟩ : ∃ g, g = w4.heap.size := ⟨_, rfl⟩
  rw [← hgg] at h5 hgb hgl ⊢
  have hbl : (be2 s.length).length = 2 := rfl
  clear hgg hx5 hE4 h4 hcv
  go_wp2_with fail
  refine (rnum_any g most _ _ h5' (by simp [be6_length])).mono ?_
  rintro e w6 ⟨rfl, h6, hx6⟩
  have hE6 : Ext [] w0 w6 := hE5.trans hx6 (by simpa using hga)
  have h6' := h5.keep hx6 (by simp; omega)
  have hn1 := numR_be6 most x [] (by omega)
  rw [List.append_nil] at hn1
  obtain ⟨A, hA⟩ : ∃ A, A = numR most (be6 x, false) := ⟨_, rfl⟩
  rw [← hA] at h6 hn1 ⊢
  have HA : Hid (A = if (x : Int) > max most 0 then (0, ([], true)) else ((x : Int), ([], false))) := hn1
  clear hx6 hE5 h5 h5' hn1 hA
  go_wp2_with fail
  refine (rtext_any g' most _ _ h6' (by simp [hbl]; omega)).mono ?_
  rintro e w7 ⟨rfl, h7, hx7⟩
  have hE7 : Ext [] w0 w7 := hE6.trans hx7 (by simpa using hgb)
  have h7' := h6.keep hx7 (by simp; omega)
  have hn1 := textR_be2 most s [] (by omega)
  rw [List.append_nil] at hn1
  obtain ⟨T, hT⟩ : ∃ T, T = textR most (be2 s.length ++ s, false) := ⟨_, rfl⟩
  rw [← hT] at h7 hn1 ⊢
  have HT : Hid (T = if (s.length : Int) > most then ([], ([], true)) else (s, ([], false))) := hn1
  clear hx7 hE6 h6 h6' hn1 hT
  go_upto_region 12 with fail
  go_cut [11, 12, 13, 14, 96] (fun _ _ _ _ z wx => z = .bool false ∧ wx = w7)
  case first =>
    clear hR hl hE7
    by_cases hok : (x : Int) ≤ max most 0
    · have f1 : ¬ (x : Int) > max most 0 := by omega
      obtain rfl : A = ((x : Int), ([], false)) := by rw [HA.out, if_neg f1]
      have d1 : decide ((x : Int) ≤ max most 0) = true := by simpa using hok
      by_cases hfit : (s.length : Int) ≤ most
      · have f2 : ¬ (s.length : Int) > most := by omega
        obtain rfl : T = (s, ([], false)) := by rw [HT.out, if_neg f2]
        have d2 : decide ((s.length : Int) ≤ most) = true := by simpa using hfit
        clear f1 f2 HA HT
        go_wp2_with (first
          | ((with_reducible refine (rok_any g _ _ h7').mono ?_); rintro e w8 ⟨rfl, rfl⟩)
          | ((with_reducible refine (rok_any g' _ _ h7).mono ?_); rintro e w8 ⟨rfl, rfl⟩))
        go_meet
        exact ⟨rfl, rfl⟩
      · have f2 : (s.length : Int) > most := by omega
        obtain rfl : T = ([], ([], true)) := by rw [HT.out, if_pos f2]
        have d2 : decide ((s.length : Int) ≤ most) = false := by simpa using hfit
        clear f1 f2 HA HT
        go_wp2_with (first
          | ((with_reducible refine (rok_any g _ _ h7').mono ?_); rintro e w8 ⟨rfl, rfl⟩)
          | ((with_reducible refine (rok_any g' _ _ h7).mono ?_); rintro e w8 ⟨rfl, rfl⟩))
        go_meet
        exact ⟨rfl, rfl⟩
    · have f1 : (x : Int) > max most 0 := by omega
      obtain rfl : A = (0, ([], true)) := by rw [HA.out, if_pos f1]
      have d1 : decide ((x : Int) ≤ max most 0) = false := by simpa using hok
      by_cases hfit : (s.length : Int) ≤ most
      · have f2 : ¬ (s.length : Int) > most := by omega
        obtain rfl : T = (s, ([], false)) := by rw [HT.out, if_neg f2]
        have d2 : decide ((s.length : Int) ≤ most) = true := by simpa using hfit
        clear f1 f2 HA HT
        go_wp2_with (first
          | ((with_reducible refine (rok_any g _ _ h7').mono ?_); rintro e w8 ⟨rfl, rfl⟩)
          | ((with_reducible refine (rok_any g' _ _ h7).mono ?_); rintro e w8 ⟨rfl, rfl⟩))
        go_meet
        exact ⟨rfl, rfl⟩
      · have f2 : (s.length : Int) > most := by omega
        obtain rfl : T = ([], ([], true)) := by rw [HT.out, if_pos f2]
        have d2 : decide ((s.length : Int) ≤ most) = false := by simpa using hfit
        clear f1 f2 HA HT
        go_wp2_with (first
          | ((with_reducible refine (rok_any g _ _ h7').mono ?_); rintro e w8 ⟨rfl, rfl⟩)
          | ((with_reducible refine (rok_any g' _ _ h7).mono ?_); rintro e w8 ⟨rfl, rfl⟩))
        go_meet
        exact ⟨rfl, rfl⟩
  case rest =>
    obtain ⟨rfl, rfl⟩ := hcut
    clear h7 h7' hga hgb hgl HA HT
    have hs7 := hE7.size
    go_wp2
    go_loopw [15, 100] (fun v i wr => ∃ k : Nat, k ≤ len ∧ i = .int .i64 k ∧ OwnB wr v (encNums (ns.take k)) ∧ (∀ x ∈ vblocks v, w0.heap.size ≤ x) ∧ Ext [] w0 wr) (fun _ i _ => len - (intOf i).toNat)
    case atStart => exact ⟨0, by omega, rfl, Own.lit _ #[] _ 1 0 rfl (by omega), by simp [vblocks]; omega, hE7.alloc _⟩
    case round =>
      clear hE7 hs7
      obtain ⟨k, hk, rfl, ho, hv, hxr⟩ := hrel
      by_cases hlt : k < len
      · obtain ⟨b, off, rfl, hbw, hc⟩ := hR.view (by omega)
        have h1 := hxr.cell (p := ⟨b, off + k, none⟩) (by simp) (hc k (.int .i64 (ns.getD k 0)) (by simp [List.getD, show k < ns.length by omega]))
        have htk : Hid (encNums (ns.take (k + 1)) = encNums (ns.take k) ++ encNum (ns.getD k 0)) := by
          show _ = _
          rw [take_succ_get ns k 0 (by omega), encNums_append, encNums_one]
        have hol : (encNums (ns.take k)).length ≤ 1000 := by rw [encNums_length, List.length_take]; omega
        obtain ⟨z, hz⟩ : ∃ z, z = ns.getD k 0 := ⟨_, rfl⟩
        obtain ⟨o, hoo⟩ : ∃ o, o = encNums (ns.take k) := ⟨_, rfl⟩
        rw [← hz] at h1 htk
        rw [← hoo] at htk hol ho
        have hlt2 := ho.lt
        clear hz hoo hc hR hl
        go_wp2_with fail
        refine (num_any _ o _ 1 1 [z] _ (by omega) (by omega) (ho.keep ((Ext.refl [] wr).alloc _) (by simp)) (Rd.ints1 z) (by intro x hx hx2; simp [vblocks] at hx; have := hlt2 x hx2; omega)).mono ?_
        rintro e w3 ⟨v', rfl, ho3, hx4, hv'⟩
        have hx5 : Ext [] w0 w3 := (hxr.alloc _).trans hx4 (fun x hx => .inr (hv x hx))
        have hv3 : ∀ x ∈ vblocks v', w0.heap.size ≤ x := fun x hx => by
          rcases hv' x hx with h | h
          · exact hv x h
          · have := hxr.size; simp at h; omega
        clear hxr hx4 ho hv' hlt2 h1
        go_wp2
        go_roundw
        case rel => exact ⟨k + 1, by omega, by go_num, by rw [htk.out, ← encNums_one]; exact ho3, hv3, hx5⟩
        case measure => simp [intOf]; omega
      · obtain rfl : k = len := by omega
        rw [List.take_of_length_le (by omega)] at ho
        go_wp2_with fail
        refine (fail_nil wr).mono ?_
        rintro e w8 ⟨rfl, rfl⟩
        have hR8 : Rd wr 1 (.slice a k cap) k (ns.map (Value.int .i64)) := hR.keep hxr (by simp)
        obtain ⟨L, hL⟩ : ∃ L, L = encNums ns := ⟨_, rfl⟩
        rw [← hL] at ho
        have hnum : Calls Try.prog 17 #[.slice none 0 0, .slice a k cap] wr.drew (Laid wr.drew (.slice none 0 0) L) := by
          rw [hL]
          exact num_any (.slice none 0 0) [] a k cap ns _ (by omega) (by simp) (OwnB.nil _) (hR8.keep ((Ext.refl [] wr).drew) (by simp)) (by simp [vblocks])
        have hc0 : (convert 23 9 u15).run Try.prog wr.drew = .ok (str L) wr.drew := (ho.keep ((Ext.refl [] wr).drew) (by simp)).str
        clear hR hR8 hl hL
        go_wp2_with fail
        go_region_with
          (first
            | ((try go_at_call 17); (with_reducible refine hnum.mono ?_); rintro e w9 ⟨v3, rfl, ho3, hx9, hv3⟩; have hE9 : Ext [] wr w9 := (Ext.refl [] wr).drew.then0 hx9; have hc1 := ho3.str; have hc2 := (ho.keep hE9 (by simp)).str)
            | ((try go_at_call 33); (with_reducible refine (rnum_nil 1 (by omega) _).mono ?_); rintro e w10 ⟨rfl, hx10⟩)
            | ((try go_at_call 34); (with_reducible refine (rtext_nil 1 _).mono ?_); rintro e w11 ⟨rfl, rfl⟩)
            | ((try go_at_call 35); (with_reducible refine (rflag_nil _).mono ?_); rintro e w11 ⟨rfl, rfl⟩)
            | ((try go_at_call 31); (with_reducible refine (rok_nil _).mono ?_); rintro e w11 ⟨rfl, rfl⟩)
            | ((try go_at_call 32); (with_reducible refine (rdone_nil _).mono ?_); rintro e w11 ⟨rfl, rfl⟩))
        all_goals (go_wp2; go_ret; exact ⟨rfl, (hxr.then0 hE9).then0 hx10⟩)
end Go.Proofs.Ytoeccimbechfeaa
