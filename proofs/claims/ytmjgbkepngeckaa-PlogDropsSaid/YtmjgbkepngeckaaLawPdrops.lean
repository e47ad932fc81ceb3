/- PlogDrops: the plain law, the walk. -/
import Derived.Test.YtmjgbkepngeckaaPq5
import Derived.Test.YtmjgbkepngeckaaBits
namespace Go.Proofs.Ytmjgbkepngeckaa
open Go.RowKit
set_option linter.unusedVariables false
set_option linter.unusedSimpArgs false
attribute [local go_sem] i64_and7 i64_and255

theorem gone_look {L : Lg} {V : Int → Sl} {i : Int} (ha : (V (L.a i)).2.idx = i → (V (L.a i)).1 ≠ 1) (hb : (V (L.b i)).1 = 1) (hb2 : (V (L.b i)).2.idx ≠ i) : (L.look V i).2 = 0 := by
  unfold Lg.look lookP
  split
  · rename_i h; exact absurd h.1 (ha h.2.2)
  · split
    · rfl
    · split
      · rename_i h; exact absurd h.2.2 hb2
      · split
        · omega
        · rfl
structure DropsOk (L2 : Lg) (V' : Int → Sl) (fi : Int) (n : Nat) (want : Int) : Prop where
  first : L2.first = fi
  last : L2.last = n
  hurt : HurtIs L2.hurt want
  again : ∀ L' : Lg, L'.base = 3 → L'.size = 8 → L'.first = fi → Scan V' L' → ((L'.terms.length : Int) = L'.size ∨ (L'.look V' (L'.first + L'.terms.length)).2 = 0) → (L'.terms.length : Int) ≤ L'.size → HurtIs L'.hurt want ∧ L'.last = n
theorem drops_law {L : Lg} {V : Int → Sl} {all : List Ent} {N : Int} (hS : Solid L V all) (hok : LgOk L N) (e1 : L.base = 3) (e2 : L.size = 8) (e3 : L.first = 1) {bad fi : Int} (hb1 : 1 ≤ bad) (hb2 : bad ≤ all.length) (hf1 : 1 ≤ fi) (hf2 : fi ≤ (all.length : Int) + 1) :
    DropsOk ((L.scr (setF V (L.a bad) badS) (L.last + 1)).drop fi) (setF V (L.a bad) badS) fi all.length (if fi ≤ bad then bad else 0) := by
  obtain ⟨j, hj⟩ : ∃ j : Nat, bad = L.first + (j : Int) := ⟨(bad - 1).toNat, by omega⟩
  have hjl : j < all.length := by omega
  have hab : ∀ i, L.a i < L.base + L.size ∧ L.base + L.size ≤ L.b i := fun i => (hok.ab i).2.2.2.2
  have hl := hS.laid.loseE hab hjl
  have ho := hS.free.loseE hS.laid.pos hab hjl badS
  have hlen := hS.laid.len
  have hlast := hS.last
  rw [← hj] at hl ho
  obtain ⟨V', hV'⟩ : ∃ V', V' = setF V (L.a bad) badS := ⟨_, rfl⟩
  rw [← hV'] at hl ho ⊢
  have hT := hS.scr hl
  have heb : ∀ i, orIf noBad bad i = true ↔ i = bad := fun i => by simp [orIf, noBad]
  have hlk : ∀ i : Int, 1 ≤ i → i ≤ (all.length : Int) → ((L.look V' i).2 ≠ 0 ∧ ((L.look V' i).2 ≠ 1 ↔ i = bad)) := by
    intro i h1 h2
    obtain ⟨k, hk⟩ : ∃ k : Nat, i = L.first + (k : Int) := ⟨(i - 1).toNat, by omega⟩
    subst hk
    rw [hl.look k (by omega)]
    exact ⟨tells_ne _ _ _, by rw [tells_good, heb]⟩
  have hbeh : (all.length : Int) + 1 - fi < 8 → (L.look V' ((all.length : Int) + 1)).2 = 0 := by
    intro h1
    by_cases h8 : (all.length : Int) < 8
    · exact free_look (ho _ (by omega) (by omega)).1
    · have hl8 : all.length = 8 := by omega
      have e9 : ((all.length : Int) + 1) = L.first + ((0 : Nat) : Int) + L.size := by omega
      obtain ⟨h2, h3⟩ := hl.there 0 (by omega)
      have hx := hl.idx 0 (by omega)
      have hm : noBad (L.first + ((0 : Nat) : Int)) = false := rfl
      rw [hm, if_neg (by decide)] at h3
      rw [e9]
      refine gone_look ?_ ?_ ?_
      · rw [Lg.a_add, h2]
        cases orIf noBad bad (L.first + ((0 : Nat) : Int)) with
        | false =>
          intro h
          have h4 : all[0].idx = _ := h
          omega
        | true =>
          rw [if_pos rfl]
          exact fun _ h => absurd h (by decide)
      · rw [Lg.b_add, h3]; rfl
      · rw [Lg.b_add, h3]
        intro h
        have h4 : all[0].idx = _ := h
        omega
  refine ⟨rfl, ?_, ?_, fun L' g1 g2 g3 hs hend hle => ?_⟩
  · show fi + ((List.drop (fi - L.first).toNat L.terms).length : Int) - 1 = _
    rw [List.length_drop, hS.len]
    omega
  · have hh : ∀ i, ((L.scr V' (L.last + 1)).drop fi).hurt i = true ↔ (i = bad ∧ fi ≤ i) := by
      intro i
      show ((L.scr V' (L.last + 1)).hurt i && decide (fi ≤ i)) = true ↔ _
      rw [hT.hurt, Bool.and_eq_true, decide_eq_true_iff, decide_eq_true_iff, heb]
      have e : (L.scr V' (L.last + 1)).first = L.first := rfl
      rw [e]
      constructor
      · rintro ⟨⟨_, _, h3⟩, h4⟩; exact ⟨h3, h4⟩
      · rintro ⟨h3, h4⟩; exact ⟨⟨by omega, by omega, h3⟩, h4⟩
    by_cases hfb : fi ≤ bad
    · rw [if_pos hfb]
      exact .inr ⟨(hh bad).2 ⟨rfl, hfb⟩, fun i hi => by have := ((hh i).1 hi).1; omega⟩
    · rw [if_neg hfb]
      refine .inl ⟨rfl, fun i => ?_⟩
      cases h : ((L.scr V' (L.last + 1)).drop fi).hurt i with
      | false => rfl
      | true => have := (hh i).1 h; omega
  · have ell : ∀ i, L'.look V' i = L.look V' i := by
      have ea : L'.a = L.a := by funext i; unfold Lg.a; rw [g1, g2, e1, e2]
      have eb : L'.b = L.b := by funext i; unfold Lg.b; rw [g1, g2, e1, e2]
      intro i; unfold Lg.look; rw [ea, eb]
    obtain ⟨M, hM⟩ : ∃ M : Nat, (all.length : Int) + 1 - fi = (M : Int) := ⟨((all.length : Int) + 1 - fi).toNat, by omega⟩
    have hlM := scan_len hs hend hle (N := M) (by omega) (fun k hk => by rw [ell]; exact (hlk (L'.first + (k : Int)) (by omega) (by omega)).1) (by
      by_cases h8 : (M : Int) = L'.size
      · exact .inl h8
      · right
        rw [ell]
        have e9 : L'.first + (M : Int) = (all.length : Int) + 1 := by omega
        rw [e9]
        exact hbeh (by omega))
    have hh : ∀ i, L'.hurt i = true ↔ (i = bad ∧ fi ≤ i) := by
      intro i
      rw [hs.hurt, decide_eq_true_iff, ell, hlM, g3]
      constructor
      · rintro ⟨h3, h4, h5⟩
        exact ⟨(hlk i (by omega) (by omega)).2.1 h5, h3⟩
      · rintro ⟨h3, h4⟩
        exact ⟨h4, by omega, (hlk i (by omega) (by omega)).2.2 h3⟩
    refine ⟨?_, by unfold Lg.last; rw [hlM, g3]; omega⟩
    by_cases hfb : fi ≤ bad
    · rw [if_pos hfb]
      exact .inr ⟨(hh bad).2 ⟨rfl, hfb⟩, fun i hi => by have := ((hh i).1 hi).1; omega⟩
    · rw [if_neg hfb]
      refine .inl ⟨rfl, fun i => ?_⟩
      cases h : L'.hurt i with
      | false => rfl
      | true => have := (hh i).1 h; omega
set_option maxRecDepth 100000 in
set_option maxHeartbeats 12800000 in
theorem pdrops_any (n : Int) (_ : -9223372036854775808 ≤ n ∧ n ≤ 9223372036854775807) (bad : Int) (_ : -9223372036854775808 ≤ bad ∧ bad ≤ 9223372036854775807) (fi : Int) (_ : -9223372036854775808 ≤ fi ∧ fi ≤ 9223372036854775807) (w : World) : Calls Try.prog 6 #[.int .i64 n, .int .i64 bad, .int .i64 fi] w fun e w' => e = .returned (.bool true) ∧ Ext [] w w' := by
  have hN0 : 0 ≤ n % 8 := Int.emod_nonneg _ (by decide)
  have hN1 : n % 8 < 8 := Int.emod_lt_of_pos _ (by decide)
  have hB0 : 0 ≤ bad % 256 := Int.emod_nonneg _ (by decide)
  have hB1 : bad % 256 < 256 := Int.emod_lt_of_pos _ (by decide)
  have hF0 : 0 ≤ fi % 256 := Int.emod_nonneg _ (by decide)
  have hF1 : fi % 256 < 256 := Int.emod_lt_of_pos _ (by decide)
  obtain ⟨N, hN⟩ : ∃ N : Nat, 1 + n % 8 = (N : Int) := ⟨(1 + n % 8).toNat, by omega⟩
  have hNl : 1 ≤ N ∧ N ≤ 8 := by omega
  obtain ⟨hNa, hNb⟩ := hNl
  have hNz : ((N : Int) == 0) = false := by simp; omega
  have hNz1 : ((N : Int) + 1 == 0) = false := by simp; omega
  obtain ⟨B, hB⟩ : ∃ B, B = 1 + bad % 256 % N := ⟨_, rfl⟩
  have hB2 : 1 ≤ B ∧ B ≤ N := by
    rw [hB]
    have := Int.emod_nonneg (bad % 256) (show (N : Int) ≠ 0 by omega)
    have := Int.emod_lt_of_pos (bad % 256) (show (0 : Int) < N by omega)
    omega
  obtain ⟨F, hF⟩ : ∃ F, F = 1 + fi % 256 % ((N : Int) + 1) := ⟨_, rfl⟩
  have hF2 : 1 ≤ F ∧ F ≤ (N : Int) + 1 := by
    rw [hF]
    have := Int.emod_nonneg (fi % 256) (show (N : Int) + 1 ≠ 0 by omega)
    have := Int.emod_lt_of_pos (fi % 256) (show (0 : Int) < (N : Int) + 1 by omega)
    omega
  obtain ⟨hB3, hB4⟩ := hB2
  obtain ⟨hF3, hF4⟩ := hF2
  have hB5 : 1 + bad % 256 % N = B := hB.symm
  have hF5 : 1 + fi % 256 % ((N : Int) + 1) = F := hF.symm
  have hBt : B.tmod 8 = B % 8 := Int.tmod_eq_emod_of_nonneg (by omega)
  have hB8a : 0 ≤ B % 8 := Int.emod_nonneg _ (by decide)
  have hB8b : B % 8 < 8 := Int.emod_lt_of_pos _ (by decide)
  clear hB hF
  go_enter Try.func6, Try.ntmps6
  go_upto_region 3 with (first
    | (go_at_call 11; (with_reducible refine (head6_any _).mono ?_); rintro e w1 ⟨rfl, hx1⟩; have HX1 := Hid.of hx1; clear hx1))
  have cn := neww w w1 HX1.out [] (by simp)
  go_upto_region 10 with (first
    | (go_at_call 13; (with_reducible refine cn.mono ?_); intro e w2 hq; obtain ⟨wq, b, q, rfl, hst, hk⟩ := NewW.st hq; have HS2 := Hid.of hst; clear hq hst hk cn))
  go_loopw [8] (fun u8 wr => ∃ (k : Nat) (all : List Ent), u8 = .int .i64 ((k : Int) + 1) ∧ k ≤ N ∧ all.length = k ∧ Hid (St w wr wq b q 1 (.slice none 0 0) (.slice none 0 0) all [])) (fun u8 _ => N + 1 - (intOf u8).toNat)
  case atStart => exact ⟨0, [], rfl, by omega, rfl, HS2⟩
  case round =>
    obtain ⟨k, all, rfl, hk, hal, hS⟩ := hrel
    have cq : wr.cell? ⟨wq, 1, none⟩ = some (.pointer (some ⟨q, 0, none⟩)) := Blk.c hS.out.blk 1
    by_cases hkN : k < N
    · have he0 : appE8 1 all [⟨(k : Int) + 1, 3, []⟩] = 0 := appE8_next (by omega) (by show (k : Int) + 1 = 1 + all.length; omega) (by unfold Ent.bad; simp)
      have hea : appA8 1 all [⟨(k : Int) + 1, 3, []⟩] = all ++ [⟨(k : Int) + 1, 3, []⟩] := if_pos he0
      have ca := hS.out.append1 ⟨(k : Int) + 1, 3, []⟩ (ent_i64 (by omega) (by omega) (by omega) (by omega) (by simp)) (wr.alloc (.cells #[.int .i64 ((k : Int) + 1), .int .i64 3, .string ⟨#[]⟩] 37)) wr.heap.size ((Ext.refl _ _).alloc _) (Nat.le_refl _) (Blk.new wr 37 #[.int .i64 ((k : Int) + 1), .int .i64 3, .string ⟨#[]⟩])
      rw [he0, hea] at ca
      clear he0 hea
      go_wp2_with (first
        | (go_at_call 26; (with_reducible refine ca.mono ?_); rintro e w3 ⟨rfl, h3, hk3⟩; have H3 := Hid.of h3; clear h3 hk3 ca))
      exact ⟨⟨k + 1, _, by congr 1, by omega, by rw [List.length_append, hal]; rfl, H3⟩, by simp [intOf]; omega⟩
    · obtain rfl : k = N := by omega
      have c0 : wr.cell? ⟨wq, 0, none⟩ = some (.pointer (some ⟨b, 0, none⟩)) := Blk.c hS.out.blk 0
      obtain ⟨L, V, hW, hSo, e1, e2, e3⟩ := hS.out
      have HB := Hid.of hW.blk
      have hdr := drops_law hSo hW.log.ok e1 e2 e3 hB3 (by omega) hF3 (by omega)
      have eP : L.a B = 3 + B % 8 := by unfold Lg.a; rw [e1, e2]
      have cl := hW.log.lose (3 + B % 8) (by omega) (by omega)
      rw [eP, hal] at hdr
      have hlast := hSo.last
      rw [e3, hal] at hlast
      obtain ⟨V', hV'⟩ : ∃ V', V' = setF V (3 + B % 8) badS := ⟨_, rfl⟩
      have cl' : Calls Try.prog 28 #[.pointer (some ⟨b, 0, none⟩), .int .i64 (3 + B % 8)] wr fun e w' => e = .returned (.tuple #[]) ∧ LgX w w' q b L 19 V' (wq :: []) ∧ Kept (wq :: []) wr w' := by rw [hV']; exact cl
      rw [← hV'] at hdr
      obtain ⟨want, hwant⟩ : ∃ x, x = (if F ≤ B then B else 0) := ⟨_, rfl⟩
      rw [← hwant] at hdr
      have HDr := Hid.of hdr
      have HWant := Hid.of hwant
      have HL0 := Hid.of (And.intro e3 hlast)
      clear cl hV' hdr hwant hW hSo e1 e2 e3 eP hS hlast
      go_upto_region 15 with (first
        | (go_at_call 28; (with_reducible refine cl'.mono ?_); rintro e w3 ⟨rfl, hl3, hk3⟩; have HL3 := Hid.of hl3; have HB3 := Hid.of (hk3.blk HB.out (by simp)); clear hl3 hk3 cl'))
      clear c0 cq
      have cq : w3.cell? ⟨wq, 1, none⟩ = some (.pointer (some ⟨q, 0, none⟩)) := Blk.c HB3.out 1
      have cs := HL3.out.scrub
      have HL1 : Hid ((L.scr V' (L.last + 1)).first = 1 ∧ (L.scr V' (L.last + 1)).last = k) := Hid.of ⟨HL0.out.1, by have := HL0.out.2; show L.last = _; omega⟩
      obtain ⟨L1, hL1⟩ : ∃ L1, L1 = L.scr V' (L.last + 1) := ⟨_, rfl⟩
      rw [← hL1] at HDr cs HL1
      clear hL1
      go_upto_region 16 with (first
        | (go_at_call 17; (with_reducible refine cs.mono ?_); rintro e w4 ⟨rfl, hl4, hk4⟩; have HL4 := Hid.of hl4; have HB4 := Hid.of (hk4.blk HB3.out (by simp)); clear hl4 hk4 cs))
      clear cq
      have cq4 : w4.cell? ⟨wq, 1, none⟩ = some (.pointer (some ⟨q, 0, none⟩)) := Blk.c HB4.out 1
      have cd := HL4.out.dropc F (by have := HL1.out.1; omega) (by have := HL1.out.2; omega) (by omega)
      obtain ⟨L2, hL2⟩ : ∃ L2, L2 = L1.drop F := ⟨_, rfl⟩
      rw [← hL2] at HDr cd
      clear hL2
      go_upto_region 19 with (first
        | (go_at_call 27; (with_reducible refine cd.mono ?_); rintro e w5 ⟨rfl, hl5, hk5⟩; have HL5 := Hid.of hl5; have HB5 := Hid.of (hk5.blk HB4.out (by simp)); have cq5 : w5.cell? ⟨wq, 1, none⟩ = some (.pointer (some ⟨q, 0, none⟩)) := Blk.c HB5.out 1; have cf := HL5.out.first; rw [HDr.out.first] at cf; clear hl5 hk5 cd)
        | (go_at_call 29; (with_reducible refine cf.mono ?_); rintro e w6 ⟨rfl, hx6⟩; have HL6 := Hid.of (HL5.out.keep hx6); have HB6 := Hid.of (Blk.keep HB5.out hx6 (by simp)); have cq6 : w6.cell? ⟨wq, 1, none⟩ = some (.pointer (some ⟨q, 0, none⟩)) := Blk.c HB6.out 1; have cla := HL6.out.last_c; rw [HDr.out.last] at cla; clear hx6 cf cq5)
        | (go_at_call 21; (with_reducible refine cla.mono ?_); rintro e w7 ⟨rfl, hx7⟩; have HL7 := Hid.of (HL6.out.keep hx7); have HB7 := Hid.of (Blk.keep HB6.out hx7 (by simp)); clear hx7 cla cq6))
      clear cq4
      go_upto_if 85 with fail
      go_cut [9] (fun v wx => v = .int .i64 want ∧ wx = w7)
      case first =>
        have hw := HWant.out
        by_cases hFB : F ≤ B
        · rw [if_pos hFB] at hw
          have HW := Hid.of hw
          clear hw HWant
          go_wp2
          go_meet
          exact ⟨by rw [HW.out], rfl⟩
        · rw [if_neg hFB] at hw
          have HW := Hid.of hw
          clear hw HWant
          go_wp2
          go_meet
          exact ⟨by rw [HW.out], rfl⟩
      case rest =>
        obtain ⟨rfl, hwc⟩ := hcut
        subst hwc
        obtain ⟨mb, tv, hOld, hDev⟩ := HL7.out.old
        have HOld := Hid.of hOld
        have cd0 : wc.cell? ⟨wq, 0, none⟩ = some (.pointer (some ⟨b, 0, none⟩)) := Blk.c HB7.out 0
        have co := open_o hDev 3 8 F (by omega) (by omega) (by omega) (by omega) (by omega)
        clear hOld hDev
        go_upto_region 22 with (first
          | (go_at_call 20; (with_reducible refine co.mono ?_); rintro e w8 ⟨q8, L8, V8, V9, rfl, hx8, hk8, f1, f2, f3, hs8, hend8, -, -, -⟩; have HL8 := Hid.of hx8; have hag := HDr.out.again L8 f1 f2 f3 hs8 hend8 hx8.ok.len; have HAg := Hid.of hag; have HOld8 := Hid.of (HOld.out.kept hk8); have HB8 := Hid.of (hk8.blk HB7.out (by simp)); clear hx8 hk8 f1 f2 f3 hs8 hend8 hag co))
        clear cd0
        have cq8 : w8.cell? ⟨wq, 1, none⟩ = some (.pointer (some ⟨q, 0, none⟩)) := Blk.c HB8.out 1
        have ch1 := HOld8.out.hurt_c HDr.out.hurt
        go_wp2_with (first
          | (go_at_call 19; (with_reducible refine ch1.mono ?_); rintro e w9 ⟨rfl, hx9⟩; have HL9 := Hid.of (HL8.out.keep hx9); have ch2 := HL9.out.hurt_c HAg.out.1; clear hx9 ch1)
          | (go_at_call 19; (with_reducible refine ch2.mono ?_); rintro e w10 ⟨rfl, hx10⟩; have HL10 := Hid.of (HL9.out.keep hx10); have cl9 := HL10.out.last_c; rw [HAg.out.2] at cl9; clear hx10 ch2)
          | (go_at_call 21; (with_reducible refine cl9.mono ?_); rintro e w11 ⟨rfl, hx11⟩; have HL11 := Hid.of (HL10.out.keep hx11); clear hx11 cl9))
        go_ret
        exact ⟨rfl, HL11.out.ext⟩
end Go.Proofs.Ytmjgbkepngeckaa
