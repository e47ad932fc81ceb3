/- PlogScrubs: the plain law, the walk. -/
import Derived.Test.YtmjgbkepngeckaaPq5
import Derived.Test.YtmjgbkepngeckaaBits
namespace Go.Proofs.Ytmjgbkepngeckaa
open Go.RowKit
set_option linter.unusedVariables false
set_option linter.unusedSimpArgs false
attribute [local go_sem] i64_and7 i64_and255

theorem HurtIs.step {eb : Int → Bool} {r i : Int} (h : HurtIs eb r) (h0 : ∀ x, eb x = true → 1 ≤ x) (hi : 1 ≤ i) : HurtIs (orIf eb i) (if r = 0 ∨ i < r then i else r) := by
  have ho : ∀ x, orIf eb i x = true ↔ (eb x = true ∨ x = i) := fun x => by simp [orIf]
  rcases h with ⟨rfl, h1⟩ | ⟨h1, h2⟩
  · rw [if_pos (.inl rfl)]
    refine .inr ⟨(ho i).2 (.inr rfl), fun x hx => ?_⟩
    rcases (ho x).1 hx with h | h
    · rw [h1] at h; cases h
    · omega
  · have := h0 r h1
    by_cases hlt : i < r
    · rw [if_pos (.inr hlt)]
      refine .inr ⟨(ho i).2 (.inr rfl), fun x hx => ?_⟩
      rcases (ho x).1 hx with h | h
      · have := h2 x h; omega
      · omega
    · rw [if_neg (by omega)]
      refine .inr ⟨(ho r).2 (.inl h1), fun x hx => ?_⟩
      rcases (ho x).1 hx with h | h
      · exact h2 x h
      · omega
/-- Harm done to entries: what stands behind it. -/
structure Harmd (L : Lg) (V : Int → Sl) (all : List Ent) (eb : Int → Bool) (least : Int) : Prop where
  laid : LaidE L V all eb noBad
  rng : ∀ i, eb i = true → L.first ≤ i ∧ i < L.first + all.length
  least : HurtIs eb least
theorem Harmd.step {L : Lg} {V : Int → Sl} {all : List Ent} {eb : Int → Bool} {least : Int} (h : Harmd L V all eb least) (hf : 1 ≤ L.first) (hab : ∀ i, L.a i < L.base + L.size ∧ L.base + L.size ≤ L.b i) {i : Int} (h1 : L.first ≤ i) (h2 : i < L.first + all.length) :
    Harmd L (setF V (L.a i) badS) all (orIf eb i) (if least = 0 ∨ i < least then i else least) := by
  obtain ⟨k, hk⟩ : ∃ k : Nat, i = L.first + (k : Int) := ⟨(i - L.first).toNat, by omega⟩
  subst hk
  refine ⟨h.laid.loseE hab (by omega), fun x hx => ?_, h.least.step (fun x hx => by have := (h.rng x hx).1; omega) (by omega)⟩
  have : eb x = true ∨ x = L.first + k := by simpa [orIf] using hx
  rcases this with h | h
  · exact Harmd.rng ‹_› x h
  · omega
theorem Harmd.bad {L : Lg} {V : Int → Sl} {all : List Ent} {eb : Int → Bool} {least : Int} (h : Harmd L V all eb least) : LeastBad L.first all.length eb least := by
  rcases h.least with ⟨rfl, h1⟩ | ⟨h1, h2⟩
  · exact .inl ⟨rfl, fun i _ _ => h1 i⟩
  · obtain ⟨h3, h4⟩ := h.rng _ h1
    refine .inr ⟨h3, h4, h1, fun i h5 h6 => ?_⟩
    cases hi : eb i with
    | false => rfl
    | true => have := h2 i hi; omega
/-- Cut at the first of the damaged. -/
theorem Tells.cut0 {L : Lg} {V : Int → Sl} {all : List Ent} {eb mb kn : Int → Bool} (h : Tells L V all eb mb kn) {r : Int} (hr : LeastBad L.first all.length eb r) (h0 : r ≠ 0) : HurtIs (L.cut r).hurt 0 ∧ (L.cut r).last = r - 1 ∧ L.first ≤ r ∧ r ≤ L.last := by
  rcases hr with ⟨h1, _⟩ | ⟨h1, h2, h3, h4⟩
  · exact absurd h1 h0
  · have hl := h.last
    refine ⟨.inl ⟨rfl, fun i => ?_⟩, ?_, h1, by omega⟩
    · show (L.hurt i && decide (i < r)) = false
      rw [h.hurt]
      by_cases hi : i < r
      · have : decide (L.first ≤ i ∧ i < L.first + all.length ∧ eb i = true) = false := by
          rw [decide_eq_false_iff_not]
          rintro ⟨h5, h6, h7⟩
          rw [h4 i h5 hi] at h7; cases h7
        rw [this, Bool.false_and]
      · rw [decide_eq_false hi, Bool.and_false]
    · show L.first + ((L.terms.take (r - L.first).toNat).length : Int) - 1 = r - 1
      rw [List.length_take, h.len]
      omega
set_option maxRecDepth 100000 in
set_option maxHeartbeats 12800000 in
theorem pscr_any {w : World} (n : Int) (_ : -9223372036854775808 ≤ n ∧ n ≤ 9223372036854775807) (a : Option Addr) (len cap : Nat) (hs : List Int) (hR : Rd w 1 (.slice a len cap) len (hs.map (Value.int .i64))) (_ : ∀ n ∈ hs, (Lit.int .i64 n).wf = true) :
    Calls Try.prog 7 #[.int .i64 n, .slice a len cap] w fun e w' => e = .returned (.bool true) ∧ Ext [] w w' := by
  have hlm : len ≤ 9223372036854775807 := by have := hR.len; unfold maxLen at this; omega
  have hl : hs.length = len := by have := hR.len; simp at this; omega
  have hN0 : 0 ≤ n % 8 := Int.emod_nonneg _ (by decide)
  have hN1 : n % 8 < 8 := Int.emod_lt_of_pos _ (by decide)
  obtain ⟨N, hN⟩ : ∃ N : Nat, 1 + n % 8 = (N : Int) := ⟨(1 + n % 8).toNat, by omega⟩
  have hNl : 1 ≤ N ∧ N ≤ 8 := by omega
  obtain ⟨hNa, hNb⟩ := hNl
  have hNz : ((N : Int) == 0) = false := by simp; omega
  have HR := Hid.of hR
  have HL := Hid.of hl
  clear hR hl
  go_enter Try.func7, Try.ntmps7
  go_upto_region 3 with (first
    | (go_at_call 11; (with_reducible refine (head6_any _).mono ?_); rintro e w1 ⟨rfl, hx1⟩; have HX1 := Hid.of hx1; clear hx1))
  by_cases h10 : 10 < (len : Int)
  · go_wp2
    go_ret
    exact ⟨rfl, HX1.out⟩
  have cn := neww w w1 HX1.out [] (by simp)
  go_upto_region 10 with (first
    | (go_at_call 13; (with_reducible refine cn.mono ?_); intro e w2 hq; obtain ⟨wq, b, q, rfl, hst, hk⟩ := NewW.st hq; have HS2 := Hid.of hst; clear hq hst hk cn))
  go_loopw [6] (fun u6 wr => ∃ (k : Nat) (all : List Ent), u6 = .int .i64 ((k : Int) + 1) ∧ k ≤ N ∧ all.length = k ∧ Hid (St w wr wq b q 1 (.slice none 0 0) (.slice none 0 0) all [])) (fun u6 _ => N + 1 - (intOf u6).toNat)
  case atStart => exact ⟨0, [], rfl, by omega, rfl, HS2⟩
  case round =>
    obtain ⟨k, all, rfl, hk, hal, hS⟩ := hrel
    have cq : wr.cell? ⟨wq, 1, none⟩ = some (.pointer (some ⟨q, 0, none⟩)) := Blk.c hS.out.blk 1
    by_cases hkN : k < N
    · have he0 : appE8 1 all [⟨(k : Int) + 1, 3, []⟩] = 0 := appE8_next (by omega) (by show (k : Int) + 1 = 1 + all.length; omega) (by unfold Ent.bad; simp)
      have hea : appA8 1 all [⟨(k : Int) + 1, 3, []⟩] = all ++ [⟨(k : Int) + 1, 3, []⟩] := if_pos he0
      have ca := hS.out.append1 ⟨(k : Int) + 1, 3, []⟩ (ent_i64 (by omega) (by omega) (by omega) (by omega) (by simp)) (wr.alloc (.cells #[.int .i64 ((k : Int) + 1), .int .i64 3, .string ⟨#[]⟩] 37)) wr.heap.size ((Ext.refl _ _).alloc _) (Nat.le_refl _) (Blk.new wr 37 #[.int .i64 ((k : Int) + 1), .int .i64 3, .string ⟨#[]⟩])
      rw [he0, hea] at ca
      clear he0 hea
      go_wp2_with (first
        | (go_at_call 26; (with_reducible refine ca.mono ?_); rintro e w3 ⟨rfl, h3, hk3⟩; have H3 := Hid.of h3; clear h3 hk3 ca))
      exact ⟨⟨k + 1, _, by congr 1, by omega, by rw [List.length_append, hal]; rfl, H3⟩, by simp [intOf]; omega⟩
    · obtain rfl : k = N := by omega
      obtain ⟨L, V, hW, hSo, e1, e2, e3⟩ := hS.out
      have HE := Hid.of (And.intro e1 (And.intro e2 e3))
      have HSo := Hid.of hSo
      have HW := Hid.of hW.log
      have HB := Hid.of hW.blk
      have HAl := Hid.of hal
      have HH0 : Hid (Harmd L V all noBad 0) := Hid.of ⟨hSo.laid, fun i hi => absurd hi (by simp [noBad]), .inl ⟨rfl, fun _ => rfl⟩⟩
      clear hW hSo e1 e2 e3 hS cq hal
      go_upto_region 16 with fail
      go_loopw [7, 38] (fun u7 u38 wr2 => ∃ (j : Nat) (least : Int) (eb : Int → Bool) (V2 : Int → Sl), u7 = .int .i64 least ∧ u38 = .int .i64 (j : Int) ∧ j ≤ len ∧ Hid (Harmd L V2 all eb least) ∧ Hid (LgX w wr2 q b L 19 V2 [wq]) ∧ Hid (Blk wr2 wq 35 [.pointer (some ⟨b, 0, none⟩), .pointer (some ⟨q, 0, none⟩), .int .i64 1, .slice none 0 0, .slice none 0 0])) (fun _ u38 _ => len - (intOf u38).toNat)
      case atStart => exact ⟨0, 0, noBad, V, rfl, rfl, by omega, HH0, HW, HB⟩
      case round =>
        obtain ⟨j, least, eb, V2, rfl, rfl, hj, hH, hLx, hBk⟩ := hrel
        have cd : wr.cell? ⟨wq, 0, none⟩ = some (.pointer (some ⟨b, 0, none⟩)) := Blk.c hBk.out 0
        have cq : wr.cell? ⟨wq, 1, none⟩ = some (.pointer (some ⟨q, 0, none⟩)) := Blk.c hBk.out 1
        by_cases hjl : j < len
        · have hRr := HR.out.keep hLx.out.ext (by simp)
          obtain ⟨g, off, rfl, hgw, hc⟩ := hRr.view (by omega)
          have hje : j < hs.length := by have := HL.out; omega
          have ch := hc j (.int .i64 hs[j]) (by simp [List.getElem?_eq_getElem hje])
          generalize hs[j] = hh at ch
          have hB0 : 0 ≤ hh % 256 := Int.emod_nonneg _ (by decide)
          have hB1 : hh % 256 < 256 := Int.emod_lt_of_pos _ (by decide)
          obtain ⟨B, hB⟩ : ∃ B, B = 1 + hh % 256 % k := ⟨_, rfl⟩
          have hB2 : 1 ≤ B ∧ B ≤ k := by
            rw [hB]
            have := Int.emod_nonneg (hh % 256) (show (k : Int) ≠ 0 by omega)
            have := Int.emod_lt_of_pos (hh % 256) (show (0 : Int) < k by omega)
            omega
          obtain ⟨hB3, hB4⟩ := hB2
          have hB5 : 1 + hh % 256 % k = B := hB.symm
          have hB8a : 0 ≤ B % 8 := Int.emod_nonneg _ (by decide)
          have hB8b : B % 8 < 8 := Int.emod_lt_of_pos _ (by decide)
          have eP : L.a B = 3 + B % 8 := by unfold Lg.a; rw [HE.out.1, HE.out.2.1]
          have hst := hH.out.step (i := B) (by rw [HE.out.2.2]; omega) (fun i => (hLx.out.ok.ab i).2.2.2.2) (by rw [HE.out.2.2]; omega) (by rw [HE.out.2.2, HAl.out]; omega)
          rw [eP] at hst
          have HSt := Hid.of hst
          have cl := hLx.out.lose (3 + B % 8) (by omega) (by omega)
          obtain ⟨V3, hV3⟩ : ∃ V3, V3 = setF V2 (3 + B % 8) badS := ⟨_, rfl⟩
          have cl' : Calls Try.prog 28 #[.pointer (some ⟨b, 0, none⟩), .int .i64 (3 + B % 8)] wr fun e w' => e = .returned (.tuple #[]) ∧ LgX w w' q b L 19 V3 [wq] ∧ Kept [wq] wr w' := by rw [hV3]; exact cl
          rw [← hV3] at HSt
          clear hV3 cl hst eP hB hje hc hRr
          go_upto_region 20 with (first
            | (go_at_call 28; (with_reducible refine cl'.mono ?_); rintro e w3 ⟨rfl, hl3, hk3⟩; have HL3 := Hid.of hl3; have HB3 := Hid.of (hk3.blk hBk.out (by simp)); clear hl3 hk3 cl'))
          clear cd cq ch
          by_cases hz : least = 0
          · have HS1 := HSt.out
            rw [if_pos (.inl hz)] at HS1
            have HS2 := Hid.of HS1
            subst hz
            clear HSt HS1 hH
            go_wp2
            go_roundw
            case rel => exact ⟨j + 1, B, _, V3, rfl, by congr 1, by omega, HS2, HL3, HB3⟩
            case measure => simp [intOf]; omega
          · have hzb : (least == 0) = false := by simp [hz]
            by_cases hlt : B < least
            · have HS1 := HSt.out
              rw [if_pos (.inr hlt)] at HS1
              have HS2 := Hid.of HS1
              clear HSt HS1 hH
              go_wp2
              go_roundw
              case rel => exact ⟨j + 1, B, _, V3, rfl, by congr 1, by omega, HS2, HL3, HB3⟩
              case measure => simp [intOf]; omega
            · have HS1 := HSt.out
              rw [if_neg (by omega)] at HS1
              have HS2 := Hid.of HS1
              clear HSt HS1 hH
              go_wp2
              go_roundw
              case rel => exact ⟨j + 1, least, _, V3, rfl, by congr 1, by omega, HS2, HL3, HB3⟩
              case measure => simp [intOf]; omega
        · have ch0 := hLx.out.hurt_c HSo.out.isHurt
          have hT := HSo.out.scr hH.out.laid
          have hb := hH.out.bad
          have hlast := hT.last
          have ef : (L.scr V2 (L.last + 1)).first = L.first := rfl
          have cs := fun w' (hx : LgX w w' q b L 19 V2 [wq]) => hx.scrub
          obtain ⟨L1, hL1⟩ : ∃ L1, L1 = L.scr V2 (L.last + 1) := ⟨_, rfl⟩
          rw [← hL1] at hT hlast ef cs
          rw [← ef] at hb
          have hT2 := hT.least hb
          rw [ef, HE.out.2.2, HAl.out] at hlast
          have hlast2 : L1.last = k := by omega
          have HT2 := Hid.of hT2
          have HLa := Hid.of hlast2
          have HCut : Hid (least ≠ 0 → HurtIs (L1.cut least).hurt 0 ∧ (L1.cut least).last = least - 1 ∧ L1.first ≤ least ∧ least ≤ L1.last) := Hid.of (fun h0 => hT.cut0 hb h0)
          have HNn : Hid (least ≠ 0 → 0 < least) := Hid.of (fun h0 => by have := (hT.cut0 hb h0).2.2.1; rw [ef, HE.out.2.2] at this; omega)
          have HNm : Hid (least ≤ 8) := Hid.of (by
            by_cases h0 : least = 0
            · omega
            · have := (hT.cut0 hb h0).2.2.2; omega)
          clear hL1 hT hb hlast ef hT2 hlast2 hH
          go_upto_region 25 with (first
            | (go_at_call 19; (with_reducible refine ch0.mono ?_); rintro e w3 ⟨rfl, hx3⟩; have HL3 := Hid.of (hLx.out.keep hx3); have HB3 := Hid.of (Blk.keep hBk.out hx3 (by simp)); clear hx3 ch0))
          clear cd cq
          have cq : w3.cell? ⟨wq, 1, none⟩ = some (.pointer (some ⟨q, 0, none⟩)) := Blk.c HB3.out 1
          have cs3 := cs w3 HL3.out
          clear cs
          go_upto_region 26 with (first
            | (go_at_call 17; (with_reducible refine cs3.mono ?_); rintro e w4 ⟨rfl, hl4, hk4⟩; have HL4 := Hid.of hl4; have HB4 := Hid.of (hk4.blk HB3.out (by simp)); clear hl4 hk4 cs3))
          clear cq
          have cq4 : w4.cell? ⟨wq, 1, none⟩ = some (.pointer (some ⟨q, 0, none⟩)) := Blk.c HB4.out 1
          have ch1 := HL4.out.hurt_c HT2.out
          go_upto_region 28 with (first
            | (go_at_call 19; (with_reducible refine ch1.mono ?_); rintro e w5 ⟨rfl, hx5⟩; have HL5 := Hid.of (HL4.out.keep hx5); have HB5 := Hid.of (Blk.keep HB4.out hx5 (by simp)); have cq5 : w5.cell? ⟨wq, 1, none⟩ = some (.pointer (some ⟨q, 0, none⟩)) := Blk.c HB5.out 1; have cla := HL5.out.last_c; rw [HLa.out] at cla; clear hx5 ch1)
            | (go_at_call 21; (with_reducible refine cla.mono ?_); rintro e w6 ⟨rfl, hx6⟩; have HL6 := Hid.of (HL5.out.keep hx6); have HB6 := Hid.of (Blk.keep HB5.out hx6 (by simp)); clear hx6 cla cq5))
          clear cq4
          by_cases h0 : least = 0
          · subst h0
            go_wp2
            go_ret
            exact ⟨rfl, HL6.out.ext⟩
          · have hpos := HNn.out h0
            have hle8 := HNm.out
            have hcu := HCut.out h0
            have cc := HL6.out.cutc least hcu.2.2.1 hcu.2.2.2
            have HCu := Hid.of (And.intro hcu.1 hcu.2.1)
            have cq6 : w6.cell? ⟨wq, 1, none⟩ = some (.pointer (some ⟨q, 0, none⟩)) := Blk.c HB6.out 1
            obtain ⟨L2, hL2⟩ : ∃ L2, L2 = L1.cut least := ⟨_, rfl⟩
            rw [← hL2] at cc HCu
            clear hL2 hcu HCut HNn HNm
            go_wp2_with (first
              | (go_at_call 30; (with_reducible refine cc.mono ?_); rintro e w7 ⟨rfl, V7, -, hl7, hk7⟩; have HL7 := Hid.of hl7; have HB7 := Hid.of (hk7.blk HB6.out (by simp)); have cq7 : w7.cell? ⟨wq, 1, none⟩ = some (.pointer (some ⟨q, 0, none⟩)) := Blk.c HB7.out 1; have ch7 := HL7.out.hurt_c HCu.out.1; clear hl7 hk7 cc cq6)
              | (go_at_call 19; (with_reducible refine ch7.mono ?_); rintro e w8 ⟨rfl, hx8⟩; have HL8 := Hid.of (HL7.out.keep hx8); have HB8 := Hid.of (Blk.keep HB7.out hx8 (by simp)); have cq8 : w8.cell? ⟨wq, 1, none⟩ = some (.pointer (some ⟨q, 0, none⟩)) := Blk.c HB8.out 1; have cl8 := HL8.out.last_c; rw [HCu.out.2] at cl8; clear hx8 ch7 cq7)
              | (go_at_call 21; (with_reducible refine cl8.mono ?_); rintro e w9 ⟨rfl, hx9⟩; have HL9 := Hid.of (HL8.out.keep hx9); clear hx9 cl8))
            go_ret
            exact ⟨rfl, HL9.out.ext⟩
end Go.Proofs.Ytmjgbkepngeckaa
