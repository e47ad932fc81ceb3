/- Package plog: clean. -/
import Derived.Test.YtmjgbkepngeckaaPlp
import Derived.WalkMore
namespace Go.Proofs.Ytmjgbkepngeckaa
open Go.RowKit
set_option linter.unusedVariables false
set_option linter.unusedSimpArgs false

theorem emod_ne {m i j : Int} (hm : 0 < m) (h1 : i < j) (h2 : j < i + m) : i % m ≠ j % m := by
  intro h
  have e1 := Int.mul_ediv_add_emod i m
  have e2 := Int.mul_ediv_add_emod j m
  have e3 : m * (j / m - i / m) = j - i := by rw [Int.mul_sub]; omega
  have h3 : 0 < m * (j / m - i / m) := by omega
  have h4 : 0 < j / m - i / m := Int.pos_of_mul_pos_right h3 (by omega)
  have h5 : m * 1 ≤ m * (j / m - i / m) := Int.mul_le_mul_of_nonneg_left (by omega) (by omega)
  omega
theorem Lg.a_ne {L : Lg} {i j : Int} (hm : 0 < L.size) (h1 : i < j) (h2 : j < i + L.size) : L.a i ≠ L.a j := fun h => emod_ne hm h1 h2 (by unfold Lg.a at h; omega)
theorem Lg.b_ne {L : Lg} {i j : Int} (hm : 0 < L.size) (h1 : i < j) (h2 : j < i + L.size) : L.b i ≠ L.b j := fun h => emod_ne hm h1 h2 (by unfold Lg.b at h; omega)
/-- What clean leaves of a place: the empty, and what is whole and older. -/
def cleanS (i : Int) (s : Sl) : Sl := if s.1 = 0 ∨ (s.1 = 1 ∧ s.2.idx < i) then s else (0, Rc.zero)
structure CleanIs (pl : Int → Int) (lo hi : Int) (V V' : Int → Sl) : Prop where
  done : ∀ i, lo ≤ i → i < hi → V' (pl i) = cleanS i (V (pl i))
  other : ∀ k, (∀ i, lo ≤ i → i < hi → k ≠ pl i) → V' k = V k
theorem CleanIs.refl (pl : Int → Int) (lo : Int) (V : Int → Sl) : CleanIs pl lo lo V V := ⟨fun i h1 h2 => by omega, fun k _ => rfl⟩
theorem CleanIs.at {pl : Int → Int} {lo hi : Int} {V V' : Int → Sl} (h : CleanIs pl lo hi V V') (inj : ∀ i, lo ≤ i → i < hi → pl i ≠ pl hi) : V' (pl hi) = V (pl hi) :=
  h.other _ fun i h1 h2 e => inj i h1 h2 e.symm
theorem CleanIs.step {pl : Int → Int} {lo hi : Int} {V V' V'' : Int → Sl} (h : CleanIs pl lo hi V V') (hh : lo ≤ hi) (inj : ∀ i, lo ≤ i → i < hi → pl i ≠ pl hi)
    (h1 : V'' (pl hi) = cleanS hi (V' (pl hi))) (h2 : ∀ k, k ≠ pl hi → V'' k = V' k) : CleanIs pl lo (hi + 1) V V'' := by
  refine ⟨fun i g1 g2 => ?_, fun k hk => ?_⟩
  · by_cases hi' : i = hi
    · subst hi'; rw [h1, h.at inj]
    · rw [h2 _ (inj i g1 (by omega)), h.done i g1 (by omega)]
  · rw [h2 k (hk hi hh (by omega)), h.other k fun i g1 g2 => hk i g1 (by omega)]
/-- Behind p parts: first the marks, then the entries. -/
def CleanP (L : Lg) (lo : Int) (p : Nat) (V V' : Int → Sl) : Prop :=
  match p with
  | 0 => V' = V
  | 1 => CleanIs L.b lo (L.first + L.size) V V'
  | _ => ∃ V1, CleanIs L.b lo (L.first + L.size) V V1 ∧ CleanIs L.a lo (L.first + L.size) V1 V'
/-- Nothing to be let go. -/
def AllFree (L : Lg) (lo : Int) (V : Int → Sl) : Prop := ∀ i, lo ≤ i → i < L.first + L.size → ((V (L.a i)).1 = 0 ∨ ((V (L.a i)).1 = 1 ∧ (V (L.a i)).2.idx < i)) ∧ ((V (L.b i)).1 = 0 ∨ ((V (L.b i)).1 = 1 ∧ (V (L.b i)).2.idx < i))
theorem LgAt.sub {w0 w : World} {q b mb : Nat} {tv : Value} {D : Dv} {L : Lg} {n : Int} {V : Int → Sl} {s : Nat} {O O' : List Nat} (h : LgAt w0 w q b mb tv D L n V s O) (hs : ∀ z ∈ O', z ∈ O) : LgAt w0 w q b mb tv D L n V s O' :=
  ⟨h.toLgM.sub hs, h.fine⟩
theorem LgAt.add {w0 w w' : World} {q b mb : Nat} {tv : Value} {D : Dv} {L : Lg} {n : Int} {V : Int → Sl} {s : Nat} {O : List Nat} (h : LgAt w0 w q b mb tv D L n V s O) (hx : Ext [] w w') (z : Nat) (h1 : w.heap.size ≤ z) (h2 : z < w'.heap.size) : LgAt w0 w' q b mb tv D L n V s (z :: O) :=
  ⟨h.toLgM.add hx z h1 h2, h.fine⟩
/-- A block let go. -/
theorem LgAt.wipe {w0 w : World} {q b mb : Nat} {tv : Value} {D : Dv} {L : Lg} {n : Int} {V : Int → Sl} {s : Nat} {O : List Nat} (h : LgAt w0 w q b mb tv D L n V s O) (hs : s ≤ 1000000) (w' : World) (hx : Ext [] w w') (k : Int) (h1 : 0 ≤ k) (h2 : k < n) :
    Calls Try.prog 57 #[.pointer (some ⟨b, 0, none⟩), .int .i64 k, .string ⟨#[]⟩] w' fun e w2 => e = .returned (.int .i64 0) ∧ LgAt w0 w2 q b mb tv (writeD k [] D) L n (setF V k (0, Rc.zero)) (s + 1) O ∧ Kept O w' w2 := by
  have hk := h.keep hx
  have hf := h.fine.wipe h1 h2
  refine (write_o b D k [] w0 w' _ hk.dev (Nat.le_trans h.fine.since hs)).mono ?_
  rintro e w2 ⟨rfl, hd, hkk⟩
  have := hk.toLgM.devt hd hkk
  exact ⟨by rw [hf.1], ⟨this.1, hf.2⟩, this.2⟩
theorem LgAt.flush {w0 w : World} {q b mb : Nat} {tv : Value} {D : Dv} {L : Lg} {n : Int} {V : Int → Sl} {s : Nat} {O : List Nat} (h : LgAt w0 w q b mb tv D L n V s O) :
    Calls Try.prog 56 #[.pointer (some ⟨b, 0, none⟩)] w fun e w2 => e = .returned (.int .i64 0) ∧ LgAt w0 w2 q b mb tv (flushD D) L n V 0 O ∧ Kept O w w2 := by
  refine (flush_o b D w0 w _ h.dev).mono ?_
  rintro e w2 ⟨rfl, hd, hkk⟩
  have := h.toLgM.devt hd hkk
  exact ⟨by rw [h.fine.turnE], ⟨this.1, h.fine.flush⟩, this.2⟩
set_option maxRecDepth 100000 in
set_option maxHeartbeats 12800000 in
theorem clean_o {w0 w : World} {q b mb : Nat} {tv : Value} {D : Dv} {L : Lg} {n : Int} {V : Int → Sl} {O : List Nat} (h : LgAt w0 w q b mb tv D L n V 0 O) (lo : Int) (hlo : L.first ≤ lo) (hlo2 : lo ≤ L.first + L.size) :
    Calls Try.prog 43 #[.pointer (some ⟨q, 0, none⟩), .int .i64 lo] w fun e w' => e = .returned (.int .i64 0) ∧ ∃ D' V', CleanP L lo 2 V V' ∧ LgAt w0 w' q b mb tv D' L n V' 0 O ∧ Kept O w w' ∧ (AllFree L lo V → D' = D ∧ V' = V) := by
  have H0 := Hid.of h
  have g1 := h.ok.first
  have g2 := h.ok.firstb
  have g3 := h.ok.size
  have g4 := h.ok.fit
  have g5 := h.ok.base
  have g6 := h.ok.big
  have HAB := Hid.of h.ok.ab
  obtain ⟨OK, hOK⟩ : ∃ p : Prop, p = AllFree L lo V := ⟨_, rfl⟩
  have HOK := Hid.of hOK
  rw [← hOK]
  clear hOK
  clear h
  go_enter Try.func43, Try.ntmps43
  go_upto_region 2 with fail
  obtain ⟨z, hz⟩ : ∃ z, z = w.heap.size := ⟨_, rfl⟩
  obtain ⟨W, hW⟩ : ∃ W, W = w.alloc (.cells #[.int .i64 1, .int .i64 0] 3) := ⟨_, rfl⟩
  have HZ : Hid (Blk W z 3 [.int .i64 1, .int .i64 0]) := Hid.of (by rw [hz, hW]; exact Blk.new w 3 #[.int .i64 1, .int .i64 0])
  have hxW : Ext [] w W := by rw [hW]; exact (Ext.refl _ _).alloc _
  have HM : Hid (LgAt w0 W q b mb tv D L n V 0 (z :: O)) := Hid.of (H0.out.add hxW z (by omega) (Blk.lt HZ.out))
  have HK : Hid (Kept O w W) := Hid.of (Kept.of hxW)
  rw [← hz, ← hW]
  clear hz hW hxW H0
  go_loopw [19] (fun u19 wr => ∃ (p : Nat) (D1 : Dv) (V1 : Int → Sl), u19 = .int .i64 (p : Int) ∧ p ≤ 2 ∧ Hid (CleanP L lo p V V1) ∧ Hid (LgAt w0 wr q b mb tv D1 L n V1 0 (z :: O)) ∧ Hid (Kept (z :: O) W wr) ∧ Hid (OK → D1 = D ∧ V1 = V)) (fun u19 _ => 2 - (intOf u19).toNat)
  case atStart => exact ⟨0, D, V, rfl, by omega, rfl, HM, Kept.refl _ _, fun _ => ⟨rfl, rfl⟩⟩
  case round =>
    obtain ⟨p, D1, V1, rfl, hp, hC1, hM1, hK1, hSm1⟩ := hrel
    by_cases hp2 : p = 2
    · subst hp2
      go_wp2
      go_ret
      exact ⟨rfl, D1, V1, hC1.out, hM1.out.sub (fun y hy => by simp [hy]), HK.out.trans (hK1.out.sub (fun y hy => by simp [hy])), hSm1.out⟩
    · obtain ⟨KK, hKK⟩ : ∃ K : Nat, K = if p = 0 then 1 else 0 := ⟨_, rfl⟩
      obtain ⟨pl, hpl⟩ : ∃ f : Int → Int, f = if p = 0 then L.b else L.a := ⟨_, rfl⟩
      have hlt2 : p < 2 := by omega
      have hz1 := hK1.out.blk HZ.out (by simp)
      have cz : wr.cell? ⟨z, p, none⟩ = some (.int .i64 KK) := by
        rw [Blk.c hz1 p, hKK]
        match p, hlt2 with
        | 0, _ => rfl
        | 1, _ => rfl
      have HN : Hid (∀ V2, CleanIs pl lo (L.first + L.size) V1 V2 → CleanP L lo (p + 1) V V2) := Hid.of (by
        have h1 := hC1.out
        rw [hpl]
        match p, hlt2 with
        | 0, _ => intro V2 h2; rw [if_pos rfl] at h2; rw [show V1 = V from h1] at h2; exact h2
        | 1, _ => intro V2 h2; rw [if_neg (by omega)] at h2; exact ⟨V1, h1, h2⟩)
      have HPl : Hid ((KK = 1 ∧ pl = L.b) ∨ (KK = 0 ∧ pl = L.a)) := Hid.of (by
        rw [hKK, hpl]
        split
        · exact .inl ⟨rfl, rfl⟩
        · exact .inr ⟨rfl, rfl⟩)
      have HInj : Hid (∀ i j, lo ≤ i → i < j → j < L.first + L.size → pl i ≠ pl j) := Hid.of (by
        intro i j h1 h2 h3
        rcases HPl.out with ⟨_, h⟩ | ⟨_, h⟩
        · rw [h]; exact Lg.b_ne (by omega) h2 (by omega)
        · rw [h]; exact Lg.a_ne (by omega) h2 (by omega))
      have HRg : Hid (∀ i, 0 ≤ pl i ∧ pl i < n) := Hid.of (by
        intro i
        obtain ⟨a1, a2, b1, b2, _⟩ := HAB.out i
        rcases HPl.out with ⟨_, h⟩ | ⟨_, h⟩
        · rw [h]; exact ⟨b1, b2⟩
        · rw [h]; exact ⟨a1, a2⟩)
      have hp2' : (p : Int) < 2 := by omega
      clear hz1 hKK hpl hC1 HM
      go_wp2_with fail
      go_step3
      go_wp2_with fail
      go_step3
      go_wp2_with fail
      go_loopw [7, 8] (fun u7 u8 wr2 => ∃ (wrote : Bool) (i : Int) (D2 : Dv) (V2 : Int → Sl) (s : Nat), u7 = .bool wrote ∧ u8 = .int .i64 i ∧ lo ≤ i ∧ i ≤ L.first + L.size ∧ Hid (CleanIs pl lo i V1 V2) ∧ Hid (LgAt w0 wr2 q b mb tv D2 L n V2 s (z :: O)) ∧ Hid ((s : Int) ≤ i - lo ∧ (wrote = false → s = 0)) ∧ Hid (Kept (z :: O) wr wr2) ∧ Hid (OK → wrote = false ∧ D2 = D ∧ V2 = V)) (fun _ u8 _ => (L.first + L.size - intOf u8).toNat)
      case atStart => exact ⟨false, lo, D1, V1, 0, rfl, rfl, by omega, by omega, CleanIs.refl _ _ _, hM1, ⟨by omega, fun _ => rfl⟩, Kept.refl _ _, fun h => ⟨rfl, hSm1.out h⟩⟩
      case round =>
        obtain ⟨wrote, i, D2, V2, s, rfl, rfl, hi1, hi2, hC2, hM2, hs2, hKr, hSm⟩ := hrel
        obtain ⟨c0, c1, c2, c3, c4, c5⟩ := hM2.out.blk.cells
        clear c4 c5
        by_cases hil : i < L.first + L.size
        · have cp := fun w' (hx : Ext [] wr w') => (hM2.out.keep hx).place i (by omega)
          obtain ⟨A, hA⟩ : ∃ x, x = L.a i := ⟨_, rfl⟩
          obtain ⟨B, hB⟩ : ∃ x, x = L.b i := ⟨_, rfl⟩
          rw [← hA, ← hB] at cp
          have HPi : Hid (pl i = if KK = 1 then B else A) := Hid.of (by
            rcases HPl.out with ⟨h1, h2⟩ | ⟨h1, h2⟩
            · rw [h1, h2, if_pos rfl, hB]
            · rw [h1, h2, if_neg (by omega), hA])
          have HK01 : Hid (KK = 0 ∨ KK = 1) := Hid.of (HPl.out.elim (fun h => .inr h.1) (fun h => .inl h.1))
          clear hA hB
          go_wp2_with fail
          go_quiet (fail)
          go_upto_region 9 with (first
            | (go_at_call 54; (with_reducible refine (cp _ ?hx).mono ?_); (case hx => first | exact Ext.refl _ _ | exact (Ext.refl _ _).drewN _); rintro e w3 ⟨rfl, m, rfl⟩; clear cp))
          obtain ⟨W3, hW3⟩ : ∃ W, W = wr.drewN (nq + m) := ⟨_, rfl⟩
          have HX3 : Hid (Ext [] wr W3) := Hid.of (by rw [hW3]; exact (Ext.refl _ _).drewN _)
          rw [← hW3]
          clear hW3 c2 c3
          obtain ⟨P, hP⟩ : ∃ P, P = pl i := ⟨_, rfl⟩
          rw [← hP] at HPi
          go_cut [11] (fun v wx => v = .int .i64 P ∧ Hid (Ext [] wr wx))
          case first =>
            rcases HK01.out with k0 | k0
            · have e := HPi.out
              rw [if_neg (by omega)] at e
              have HE := Hid.of e
              subst k0
              clear e HPi HK01
              go_wp2
              go_meet
              exact ⟨by rw [HE.out], HX3.out.alloc _⟩
            · have e := HPi.out
              rw [if_pos k0] at e
              have HE := Hid.of e
              subst k0
              clear e HPi HK01
              go_wp2
              go_meet
              exact ⟨by rw [HE.out], HX3.out.alloc _⟩
          case rest =>
            obtain ⟨rfl, HX4⟩ := hcut
            clear HX3 HPi HK01 c0 c1
            have c0 := (hM2.out.keep HX4.out).blk.cells.1
            obtain ⟨r1, r2⟩ := HRg.out i
            rw [← hP] at r1 r2
            have cr := hM2.out.sread wc HX4.out P r1 r2
            have HCl : Hid (∀ V3, V3 P = cleanS i (V2 P) → (∀ k, k ≠ P → V3 k = V2 k) → CleanIs pl lo (i + 1) V1 V3) := Hid.of (by
              rw [hP]
              exact fun V3 h1 h2 => hC2.out.step hi1 (fun j j1 j2 => HInj.out j i j1 j2 hil) h1 h2)
            have HBad : Hid (OK → (V2 P).1 = 0 ∨ ((V2 P).1 = 1 ∧ (V2 P).2.idx < i)) := Hid.of (by
              intro h1
              have h3 := (hSm.out h1).2.2
              rw [HOK.out] at h1
              have h4 := h1 i hi1 hil
              rw [hP, h3]
              rcases HPl.out with ⟨_, h⟩ | ⟨_, h⟩
              · rw [h]; exact h4.2
              · rw [h]; exact h4.1)
            have HF := Hid.of (fun w' (hx : Ext [] wr w') => hM2.out.wipe (by have := hs2.out.1; omega) w' hx P r1 r2)
            obtain ⟨f1, f2, f3⟩ := hM2.out.fine.sound r1 r2
            clear r1 r2 hP f2 f3
            obtain ⟨S, hS⟩ : ∃ S, S = V2 P := ⟨_, rfl⟩
            have HS := Hid.of hS
            rw [← hS] at cr HCl f1 HBad
            clear hS
            obtain ⟨s1, k1, i1, t1, d1⟩ := S
            simp only [Rc.val] at cr f1
            go_upto_region 13 with (first
              | (go_at_call 15; (with_reducible refine cr.mono ?_); rintro e w4 ⟨rfl, hx4⟩; have x5 := hx4.alloc (.cells #[.int .i64 k1, .int .i64 i1, .int .i64 t1, str d1] 39); have HA5 := Hid.of (RcAt.new w4 k1 i1 t1 d1); have c1 := HA5.out.c1; have c0' := x5.cell (by simp) c0; have HX5 := Hid.of (HX4.out.then0 x5); clear c0 x5 hx4 cr))
            obtain ⟨W5, hW5⟩ : ∃ W, W = w4.alloc (.cells #[.int .i64 k1, .int .i64 i1, .int .i64 t1, str d1] 39) := ⟨_, rfl⟩
            rw [show str d1 = Value.string ⟨d1.toArray⟩ from rfl] at hW5
            rw [← hW5] at c1 c0' HX5 ⊢
            clear hW5 HA5
            generalize w4.heap.size = R at c1 ⊢
            by_cases hk : s1 = 0 ∨ (s1 = 1 ∧ i1 < i)
            · have HC3 : Hid (CleanIs pl lo (i + 1) V1 V2) := Hid.of (HCl.out V2 (by rw [cleanS, if_pos hk]; exact HS.out.symm) (fun _ _ => rfl))
              clear HCl HF HS HBad
              rcases hk with rfl | ⟨rfl, hk⟩
              · go_wp2
                exact ⟨⟨wrote, i + 1, D2, V2, s, rfl, rfl, by omega, by omega, HC3, hM2.out.keep HX5.out, ⟨by have := hs2.out.1; omega, hs2.out.2⟩, hKr.out.trans (Kept.of HX5.out), hSm⟩, by simp [intOf]; omega⟩
              · have h10 : ((1 : Int) == 0) = false := rfl
                go_wp2
                exact ⟨⟨wrote, i + 1, D2, V2, s, rfl, rfl, by omega, by omega, HC3, hM2.out.keep HX5.out, ⟨by have := hs2.out.1; omega, hs2.out.2⟩, hKr.out.trans (Kept.of HX5.out), hSm⟩, by simp [intOf]; omega⟩
            · have HC3 : Hid (CleanIs pl lo (i + 1) V1 (setF V2 P (0, Rc.zero))) := Hid.of (HCl.out _ (by rw [setF_same, cleanS, if_neg hk]) (fun k hk => setF_other _ _ _ _ hk))
              have cw := HF.out W5 HX5.out
              have k1 : ¬ s1 = 0 := fun h => hk (.inl h)
              have k2 : s1 = 1 → ¬ i1 < i := fun h h2 => hk (.inr ⟨h, h2⟩)
              have k1b : (s1 == 0) = false := by simp [k1]
              have HNo : Hid (¬ OK) := Hid.of (fun h => hk (HBad.out h))
              clear HCl HF HS hk HBad
              by_cases k3 : s1 = 1
              · subst k3
                have k2 := k2 rfl
                go_wp2_with (first
                  | (go_at_call 57; (with_reducible refine cw.mono ?_); rintro e w6 ⟨rfl, h6, hk6⟩; have H6 := Hid.of h6; have HK6 := Hid.of hk6; clear h6 hk6 cw))
                exact ⟨⟨true, i + 1, _, _, s + 1, rfl, rfl, by omega, by omega, HC3, H6, ⟨by have := hs2.out.1; omega, by simp⟩, (hKr.out.trans (Kept.of HX5.out)).trans HK6.out, fun h => absurd h HNo.out⟩, by simp [intOf]; omega⟩
              · have k3b : (s1 == 1) = false := by simp [k3]
                go_wp2_with (first
                  | (go_at_call 57; (with_reducible refine cw.mono ?_); rintro e w6 ⟨rfl, h6, hk6⟩; have H6 := Hid.of h6; have HK6 := Hid.of hk6; clear h6 hk6 cw))
                exact ⟨⟨true, i + 1, _, _, s + 1, rfl, rfl, by omega, by omega, HC3, H6, ⟨by have := hs2.out.1; omega, by simp⟩, (hKr.out.trans (Kept.of HX5.out)).trans HK6.out, fun h => absurd h HNo.out⟩, by simp [intOf]; omega⟩
        · obtain rfl : i = L.first + L.size := by omega
          have HCn := Hid.of (HN.out V2 hC2.out)
          go_wp2_with fail
          go_quiet (fail)
          have HMq := Hid.of (hM2.out.keep ((Ext.refl _ _).drewN nq))
          have HKq := Hid.of ((hK1.out.trans hKr.out).trans (Kept.of (O := z :: O) ((Ext.refl [] wr).drewN nq)))
          cases wrote with
          | false =>
            have hs0 := hs2.out.2 rfl
            subst hs0
            go_wp2
            go_roundw
            case rel => exact ⟨p + 1, D2, V2, by congr 1, by omega, HCn, HMq, HKq, fun h => (hSm.out h).2⟩
            case measure => simp [intOf]; omega
          | true =>
            have c0 := HMq.out.blk.cells.1
            have cf := HMq.out.flush
            clear c1 c2 c3
            go_wp2_with (first
              | (go_at_call 56; (with_reducible refine cf.mono ?_); rintro e w4 ⟨rfl, h4, hk4⟩; have H4 := Hid.of h4; have HK4 := Hid.of hk4; clear h4 hk4 cf))
            go_wp2
            apply_assumption
            go_wp2
            go_roundw
            case rel => exact ⟨p + 1, _, V2, by congr 1, by omega, HCn, H4, HKq.out.trans HK4.out, fun h => by have := (hSm.out h).1; cases this⟩
            case measure => simp [intOf]; omega
end Go.Proofs.Ytmjgbkepngeckaa
