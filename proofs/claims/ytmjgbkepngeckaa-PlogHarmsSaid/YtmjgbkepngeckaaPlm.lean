/- Package plog: remark. -/
import Derived.Test.YtmjgbkepngeckaaPlc
import Derived.Test.YtmjgbkepngeckaaDevf
namespace Go.Proofs.Ytmjgbkepngeckaa
open Go.RowKit
set_option linter.unusedVariables false
set_option linter.unusedSimpArgs false

/-- Of the first m entries, those that are not hurt have their marks. -/
structure RemarkIs (L : Lg) (V V' : Int → Sl) (m : Nat) : Prop where
  done : ∀ j : Nat, j < m → L.hurt (L.first + j) = false → V' (L.b (L.first + j)) = (1, ⟨3, L.first + j, L.terms.getD j 0, []⟩)
  other : ∀ k, (∀ j : Nat, j < m → L.hurt (L.first + j) = false → k ≠ L.b (L.first + j)) → V' k = V k
theorem RemarkIs.refl (L : Lg) (V : Int → Sl) : RemarkIs L V V 0 := ⟨fun j h => by omega, fun k _ => rfl⟩
theorem RemarkIs.skip {L : Lg} {V V' : Int → Sl} {m : Nat} (h : RemarkIs L V V' m) (hh : L.hurt (L.first + m) = true) : RemarkIs L V V' (m + 1) := by
  refine ⟨fun j hj h1 => ?_, fun k hk => h.other k fun j hj => hk j (by omega)⟩
  by_cases e : j = m
  · subst e; rw [hh] at h1; cases h1
  · exact h.done j (by omega) h1
theorem RemarkIs.step {L : Lg} {V V' V'' : Int → Sl} {m : Nat} (h : RemarkIs L V V' m) (hh : L.hurt (L.first + m) = false) (hs : 0 < L.size) (hm : (m : Int) < L.size)
    (h1 : V'' (L.b (L.first + m)) = (1, ⟨3, L.first + m, L.terms.getD m 0, []⟩)) (h2 : ∀ k, k ≠ L.b (L.first + m) → V'' k = V' k) : RemarkIs L V V'' (m + 1) := by
  refine ⟨fun j hj g1 => ?_, fun k hk => ?_⟩
  · by_cases e : j = m
    · subst e; exact h1
    · rw [h2 _ (Lg.b_ne hs (by omega) (by omega)), h.done j (by omega) g1]
  · rw [h2 k (hk m (by omega) hh), h.other k fun j hj => hk j (by omega)]
/-- Nothing to be remarked. -/
def MarksOk (L : Lg) (V : Int → Sl) : Prop := ∀ j : Nat, j < L.terms.length → L.hurt (L.first + j) = false → V (L.b (L.first + j)) = (1, ⟨3, L.first + j, L.terms.getD j 0, []⟩)
theorem mark_put {K i t : Int} {d : List UInt8} (hk : 0 ≤ K ∧ K ≤ 281474976710655) (hi : 0 ≤ i ∧ i ≤ 281474976710655) (ht : 0 ≤ t ∧ t ≤ 281474976710655) (hd : d.length ≤ 488) : putE ⟨K, i, t, d⟩ = 0 := by
  have h : (⟨K, i, t, d⟩ : Rc).right := by unfold Rc.right; simp only; omega
  rw [putE, if_neg (fun h2 => h2 h), if_neg (by show ¬ 488 < d.length; omega)]
theorem rc_wf {K i t : Int} {d : List UInt8} (hk : 0 ≤ K ∧ K ≤ 281474976710655) (hi : 0 ≤ i ∧ i ≤ 281474976710655) (ht : 0 ≤ t ∧ t ≤ 281474976710655) (hd : d.length ≤ 488) : (⟨K, i, t, d⟩ : Rc).wf :=
  ⟨⟨by show _ ≤ K; omega, by show K ≤ _; omega⟩, ⟨by show _ ≤ i; omega, by show i ≤ _; omega⟩, ⟨by show _ ≤ t; omega, by show t ≤ _; omega⟩, by show d.length ≤ maxLen; unfold maxLen; omega⟩
/-- A rec written. -/
theorem LgAt.write {w0 w : World} {q b mb : Nat} {tv : Value} {D : Dv} {L : Lg} {n : Int} {V : Int → Sl} {s : Nat} {O : List Nat} (h : LgAt w0 w q b mb tv D L n V s O) (hs : s ≤ 1000000) (w' : World) (hx : Ext [] w w') (k : Int) (h1 : 0 ≤ k) (h2 : k < n) {r : Rc} (hr : putE r = 0) (hw : r.wf) :
    Calls Try.prog 55 #[.pointer (some ⟨b, 0, none⟩), .int .i64 k, r.val] w' fun e w2 => e = .returned (.int .i64 0) ∧ LgAt w0 w2 q b mb tv (swD k r D) L n (setF V k (1, r)) (s + 1) O ∧ Kept O w' w2 := by
  have hk := h.keep hx
  have hf := h.fine.write h1 h2 hr
  refine (swrite_o b D k r w0 w' _ hk.dev (Nat.le_trans h.fine.since hs) hw).mono ?_
  rintro e w2 ⟨rfl, hd, hkk⟩
  have := hk.toLgM.devt hd hkk
  exact ⟨by rw [hf.1], ⟨this.1, hf.2⟩, this.2⟩
theorem LgM.tv_slice {w0 w : World} {q b mb : Nat} {tv : Value} {D : Dv} {L : Lg} {n : Int} {O : List Nat} (h : LgM w0 w q b mb tv D L n O) : ∃ a c, tv = .slice a L.terms.length c := Rd.isSlice h.terms.rd
theorem hurtF_get (h : Int → Bool) (i : Int) : (hurtF h i).getD (.bool false) = .bool (h i) := by
  unfold hurtF
  cases h i <;> rfl
theorem hurt_look {w : World} {mb : Nat} {L : Lg} (h : MapAt w mb (hurtF L.hurt)) (i : Int) : (Instr.lookup 84 (.map (some mb)) (.int .i64 i) false).run Try.prog w = .ok (.bool (L.hurt i)) w := by
  have := h.lookup (P := Try.prog) Try.underlying84 Try.underlying3 zero_bool i
  rwa [hurtF_get] at this
set_option maxRecDepth 100000 in
set_option maxHeartbeats 12800000 in
theorem remark_o {w0 w : World} {q b mb : Nat} {tv : Value} {D : Dv} {L : Lg} {n : Int} {V : Int → Sl} {O : List Nat} (h : LgAt w0 w q b mb tv D L n V 0 O) :
    Calls Try.prog 42 #[.pointer (some ⟨q, 0, none⟩)] w fun e w' => e = .returned (.int .i64 0) ∧ ∃ D' V', RemarkIs L V V' L.terms.length ∧ LgAt w0 w' q b mb tv D' L n V' 0 O ∧ Kept O w w' ∧ (MarksOk L V → D' = D ∧ V' = V) := by
  obtain ⟨ta, tc, rfl⟩ := h.tv_slice
  have H0 := Hid.of h
  have g1 := h.ok.first
  have g2 := h.ok.firstb
  have g3 := h.ok.size
  have g4 := h.ok.fit
  have g5 := h.ok.base
  have g6 := h.ok.big
  have g7 := h.ok.len
  have HTm := Hid.of h.ok.terms
  have HAB := Hid.of h.ok.ab
  obtain ⟨c0, c1, c2, c3, c4, c5⟩ := h.blk.cells
  clear h c0 c1 c2 c3 c5
  obtain ⟨OK, hOK⟩ : ∃ p : Prop, p = MarksOk L V := ⟨_, rfl⟩
  have HOK := Hid.of hOK
  rw [← hOK]
  clear hOK
  obtain ⟨len, hlen⟩ : ∃ m, m = L.terms.length := ⟨_, rfl⟩
  have HLn := Hid.of hlen
  rw [← hlen] at g7 c4 H0 ⊢
  clear hlen
  go_enter Try.func42, Try.ntmps42
  go_upto_region 3 with fail
  clear c4
  go_loopw [3, 19] (fun u3 u19 wr => ∃ (wrote : Bool) (k : Nat) (D2 : Dv) (V2 : Int → Sl) (s : Nat), u3 = .bool wrote ∧ u19 = .int .i64 (k : Int) ∧ k ≤ len ∧ Hid (RemarkIs L V V2 k) ∧ Hid (LgAt w0 wr q b mb (.slice ta len tc) D2 L n V2 s O) ∧ Hid (s ≤ k ∧ (wrote = false → s = 0)) ∧ Hid (Kept O w wr) ∧ Hid (OK → wrote = false ∧ D2 = D ∧ V2 = V)) (fun _ u19 _ => len - (intOf u19).toNat)
  case atStart => exact ⟨false, 0, D, V, 0, rfl, rfl, by omega, RemarkIs.refl _ _, H0, ⟨by omega, fun _ => rfl⟩, Kept.refl _ _, fun _ => ⟨rfl, rfl, rfl⟩⟩
  case round =>
    obtain ⟨wrote, k, D2, V2, s, rfl, rfl, hk, hR, hM, hs, hK, hSm⟩ := hrel
    obtain ⟨c0, c1, c2, c3, c4, c5⟩ := hM.out.blk.cells
    by_cases hkl : k < len
    · have hkt : k < L.terms.length := by have := HLn.out; omega
      obtain ⟨g, off, rfl, hgw, hc⟩ := (show Rd wr 1 (.slice ta len tc) len (ints L.terms) by have := hM.out.terms.rd; rwa [← HLn.out] at this).view (by omega)
      have ct := hc k (.int .i64 L.terms[k]) (by simp [ints, List.getElem?_eq_getElem hkt])
      have ht := HTm.out L.terms[k] (List.getElem_mem _)
      have hgd : L.terms.getD k 0 = L.terms[k] := by simp [List.getD, List.getElem?_eq_getElem hkt]
      obtain ⟨i, hi⟩ : ∃ i : Int, i = L.first + (k : Int) := ⟨_, rfl⟩
      have hi0 : 0 ≤ i := by omega
      have hib : i ≤ 2000000000 := by omega
      obtain ⟨a1, a2, b1, b2, _⟩ := HAB.out i
      have cp := fun w' (hx : Ext [] wr w') => (hM.out.keep hx).place i hi0
      have cr := fun w' (hx : Ext [] wr w') => hM.out.sread w' hx (L.b i) b1 b2
      have hkl2 : (k : Int) < (len : Int) := by omega
      have HSt : Hid (∀ V3, L.hurt i = false → V3 (L.b i) = (1, ⟨3, i, L.terms[k], []⟩) → (∀ x, x ≠ L.b i → V3 x = V2 x) → RemarkIs L V V3 (k + 1)) := Hid.of (by
        rw [hi, ← hgd]
        exact fun V3 h0 h1 h2 => hR.out.step h0 (by omega) (by omega) h1 h2)
      have HSk : Hid (L.hurt i = true → RemarkIs L V V2 (k + 1)) := Hid.of (by rw [hi]; exact hR.out.skip)
      have HBad : Hid (OK → L.hurt i = false → V2 (L.b i) = (1, ⟨3, i, L.terms[k], []⟩)) := Hid.of (by
        intro h1 h2
        have h3 := (hSm.out h1).2.2
        rw [HOK.out] at h1
        rw [h3, hi, ← hgd]
        exact h1 k hkt (by rw [← hi]; exact h2))
      have hput := mark_put (K := 3) (d := []) (by omega) (show 0 ≤ i ∧ i ≤ 281474976710655 by omega) ht (by simp)
      have hwf := rc_wf (K := 3) (d := []) (by omega) (show 0 ≤ i ∧ i ≤ 281474976710655 by omega) ht (by simp)
      have HW := Hid.of (fun w' (hx : Ext [] wr w') => hM.out.write (by have := hs.out.1; omega) w' hx (L.b i) b1 b2 hput hwf)
      have HLk := Hid.of (fun w' (hx : Ext [] wr w') => hurt_look (hM.out.keep hx).hurt i)
      have HCs := Hid.of (fun w' (hx : Ext [] wr w') => (hM.out.keep hx).blk.cells)
      obtain ⟨f1, f2, f3⟩ := hM.out.fine.sound b1 b2
      obtain ⟨A, hA⟩ : ∃ x, x = L.a i := ⟨_, rfl⟩
      obtain ⟨B, hB⟩ : ∃ x, x = L.b i := ⟨_, rfl⟩
      rw [← hA, ← hB] at cp
      rw [← hB] at cr HSt HW f1 HBad
      obtain ⟨S, hS⟩ : ∃ S, S = V2 B := ⟨_, rfl⟩
      have HS := Hid.of hS
      rw [← hS] at cr f1
      obtain ⟨t, ht'⟩ : ∃ t, t = L.terms[k] := ⟨_, rfl⟩
      rw [← ht'] at ct ht HSt HW HBad
      obtain ⟨hu, hhu⟩ : ∃ x, x = L.hurt i := ⟨_, rfl⟩
      rw [← hhu] at HSt HSk HLk HBad
      clear hA hB hS f2 f3 hhu ht' hgd hput hwf hc a1 a2 b1 b2
      obtain ⟨s1, k1, i1, t1, d1⟩ := S
      simp only [Rc.val] at cr f1 HW
      have hi' : L.first + (k : Int) = i := hi.symm
      clear hi c4 c5
      go_upto_region 8 with (first
        | (go_at_call 54; (with_reducible refine (cp _ (Ext.refl _ _)).mono ?_); intro e w3 hq; obtain ⟨rfl, hx3⟩ := QRet.ext hq; have HXp := Hid.of hx3; clear hq hx3 cp))
      obtain ⟨W3, hW3⟩ : ∃ W, W = w3.alloc (.cells #[.int .i64 3, .int .i64 i, .int .i64 t, .string ⟨#[]⟩] 39) := ⟨_, rfl⟩
      have HX3 : Hid (Ext [] wr W3) := Hid.of (by rw [hW3]; exact HXp.out.alloc _)
      have HQ3 : Hid (RcAt W3 w3.heap.size ⟨3, i, t, []⟩) := Hid.of (by rw [hW3]; exact RcAt.new w3 3 i t [])
      rw [← hW3]
      clear hW3
      generalize w3.heap.size = Q at HQ3 ⊢
      clear c0
      have c0 := (HCs.out W3 HX3.out).1
      go_upto_region 11 with (first
        | (go_at_call 15; (with_reducible refine (cr _ HX3.out).mono ?_); rintro e w4 ⟨rfl, hx4⟩; have HQ4 := Hid.of (HQ3.out.keep hx4); have HX4 := Hid.of (HX3.out.then0 hx4); clear cr hx4 c0))
      obtain ⟨W5, hW5⟩ : ∃ W, W = w4.alloc (.cells #[.int .i64 k1, .int .i64 i1, .int .i64 t1, str d1] 39) := ⟨_, rfl⟩
      have x5 : Ext [] w4 W5 := by rw [hW5]; exact (Ext.refl _ _).alloc _
      have HR5 : Hid (RcAt W5 w4.heap.size ⟨k1, i1, t1, d1⟩) := Hid.of (by rw [hW5]; exact RcAt.new w4 k1 i1 t1 d1)
      have HQ5 : Hid (RcAt W5 Q ⟨3, i, t, []⟩) := Hid.of (HQ4.out.keep x5)
      have HX5 := Hid.of (HX4.out.then0 x5)
      rw [show str d1 = Value.string ⟨d1.toArray⟩ from rfl] at hW5
      rw [← hW5]
      clear hW5 x5 HQ4 HX4 HX3 HQ3
      generalize w4.heap.size = R at HR5 ⊢
      have c0 := (HCs.out W5 HX5.out).1
      have c5 := (HCs.out W5 HX5.out).2.2.2.2.2
      have lk := HLk.out W5 HX5.out
      have r0 := HR5.out.c0
      have r1 := HR5.out.c1
      have r2 := HR5.out.c2
      have r3 := HR5.out.c3
      have q0 := HQ5.out.c0
      have q1 := HQ5.out.c1
      have q2 := HQ5.out.c2
      have q3 := HQ5.out.c3
      simp only at r0 r1 r2 r3 q0 q1 q2 q3
      obtain ⟨M, hM2⟩ : ∃ M, M = (hu || decide (s1 = 1 ∧ (⟨k1, i1, t1, d1⟩ : Rc) = ⟨3, i, t, []⟩)) := ⟨_, rfl⟩
      have HM2 := Hid.of hM2
      clear hM2 hi'
      go_cut [66] (fun v wx => v = .bool M ∧ wx = W5)
      case first =>
        cases hu with
        | true =>
          obtain rfl : M = true := by rw [HM2.out]; simp
          clear HM2 HSt HSk HW HLk HS HBad
          go_wp2
          go_meet
          exact ⟨rfl, rfl⟩
        | false =>
          by_cases e1 : s1 = 1
          · by_cases e2 : k1 = 3
            · by_cases e3 : i1 = i
              · by_cases e4 : t1 = t
                · by_cases e5 : d1 = []
                  · obtain rfl : M = true := by rw [HM2.out]; simp [e1, e2, e3, e4, e5]
                    subst e1 e2 e5
                    clear HM2 HSt HSk HW HLk HS HBad
                    subst e3 e4
                    go_wp2
                    go_meet
                    exact ⟨rfl, rfl⟩
                  · obtain rfl : M = false := by rw [HM2.out]; simp [e1, e2, e3, e4, e5]
                    subst e1 e2
                    clear HM2 HSt HSk HW HLk HS HBad
                    subst e3 e4
                    go_wp2
                    go_meet
                    exact ⟨rfl, rfl⟩
                · obtain rfl : M = false := by rw [HM2.out]; simp [e4]
                  subst e1 e2
                  clear HM2 HSt HSk HW HLk HS HBad
                  go_wp2
                  go_meet
                  exact ⟨rfl, rfl⟩
              · obtain rfl : M = false := by rw [HM2.out]; simp [e3]
                subst e1 e2
                clear HM2 HSt HSk HW HLk HS HBad
                go_wp2
                go_meet
                exact ⟨rfl, rfl⟩
            · obtain rfl : M = false := by rw [HM2.out]; simp [e2]
              subst e1
              clear HM2 HSt HSk HW HLk HS HBad
              go_wp2
              go_meet
              exact ⟨rfl, rfl⟩
          · obtain rfl : M = false := by rw [HM2.out]; simp [e1]
            have e1b : (s1 == 1) = false := by simp [e1]
            clear HM2 HSt HSk HW HLk HS HBad
            go_wp2
            go_meet
            exact ⟨rfl, rfl⟩
      case rest =>
        obtain ⟨rfl, hwc⟩ := hcut
        subst hwc
        clear lk r0 r1 r2 r3 HLk c5 c1 c2 c3
        have HK5 := Hid.of (hK.out.trans (Kept.of HX5.out))
        cases M with
        | true =>
          have HR2 : Hid (RemarkIs L V V2 (k + 1)) := by
            cases hu with
            | true => exact HSk.out rfl
            | false =>
              have e := HM2.out
              simp only [Bool.false_or] at e
              have e2 := of_decide_eq_true e.symm
              exact HSt.out V2 rfl (by rw [← HS.out, e2.1, e2.2]) (fun _ _ => rfl)
          have HM5 := Hid.of (hM.out.keep HX5.out)
          clear HM2 HSt HSk HW HS HBad q0 q1 q2 q3 c0
          go_wp2
          go_roundw
          case rel => exact ⟨wrote, k + 1, D2, V2, s, rfl, by congr 1, by omega, HR2, HM5, ⟨by have := hs.out.1; omega, hs.out.2⟩, HK5, hSm⟩
          case measure => simp [intOf]; omega
        | false =>
          have hu0 : hu = false := by
            cases hu with
            | false => rfl
            | true => have e := HM2.out; simp at e
          have HR2 : Hid (RemarkIs L V (setF V2 B (1, ⟨3, i, t, []⟩)) (k + 1)) := Hid.of (HSt.out _ hu0 (setF_same _ _ _) (fun x hx => setF_other _ _ _ _ hx))
          have HW5 := Hid.of (fun w' (hx : Ext [] wc w') => HW.out w' (HX5.out.then0 hx))
          have HNo : Hid (¬ OK) := Hid.of (fun h1 => by
            have h2 := HBad.out h1 hu0
            have h3 := HM2.out
            rw [hu0, Bool.false_or] at h3
            have h4 := of_decide_eq_false h3.symm
            rw [← HS.out] at h2
            apply h4
            injection h2 with h5 h6
            exact ⟨h5, h6⟩)
          clear HM2 HSt HSk HW HS HBad hu0
          go_wp2_with fail
          go_region_with ((try go_at_call 55); (with_reducible refine (HW5.out _ ?hx).mono ?_); (case hx => exact (Ext.refl _ _).drew); rintro e w6 ⟨rfl, h6, hk6⟩)
          all_goals (
            have H6 := Hid.of h6
            have HK6 := Hid.of ((HK5.out.trans (Kept.of ((Ext.refl [] wc).drew))).trans hk6)
            clear h6 hk6 HW5
            go_wp2
            go_roundw
            case rel => exact ⟨true, k + 1, _, _, s + 1, rfl, by congr 1, by omega, HR2, H6, ⟨by have := hs.out.1; omega, by simp⟩, HK6, fun h => absurd h HNo.out⟩
            case measure => simp [intOf]; omega)
    · obtain rfl : k = len := by omega
      clear c1 c2 c3 c4 c5
      cases wrote with
      | false =>
        have hs0 := hs.out.2 rfl
        subst hs0
        go_wp2
        go_ret
        exact ⟨rfl, D2, V2, hR.out, hM.out, hK.out, fun h => (hSm.out h).2⟩
      | true =>
        have cf := hM.out.flush
        go_wp2_with (first
          | (go_at_call 56; (with_reducible refine cf.mono ?_); rintro e w4 ⟨rfl, h4, hk4⟩; have H4 := Hid.of h4; have HK4 := Hid.of hk4; clear h4 hk4 cf))
        go_ret
        exact ⟨rfl, _, V2, hR.out, H4.out, hK.out.trans HK4.out, fun h => by have := (hSm.out h).1; cases this⟩
end Go.Proofs.Ytmjgbkepngeckaa
