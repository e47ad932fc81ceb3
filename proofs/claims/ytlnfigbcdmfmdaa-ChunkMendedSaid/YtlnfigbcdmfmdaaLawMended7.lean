/- ChunkMended: the walk. -/
import Derived.Test.YtlnfigbcdmfmdaaChks
namespace Go.Proofs.Ytlnfigbcdmfmdaa
open Go.RowKit
set_option linter.unusedVariables false
set_option linter.unusedSimpArgs false
theorem i64_and2047 (n : Int) : bits .and .i64 n 2047 = n % 2048 := i64_mask n 2047 11 (by decide) (by decide)
attribute [local go_sem] i64_and2047 i64_and3 i64_and255

theorem Fine.under {D : Dv} {n : Int} {V : Int → Sl} (h : Fine D n V 0) {k : Int} (h1 : 0 ≤ k) (h2 : k < n) {r : Rc} (hv : V k = (1, r)) : Under D k r := by
  have hc := h.calm
  have hview := hc.view k h1 h2
  rw [hv] at hview
  have hl : D.lost k = false := by
    cases hl : D.lost k with
    | false => rfl
    | true => rw [hl] at hview; have := congrArg Prod.fst hview; simp [slotv] at this
  rw [hl, slotv, if_neg (by decide)] at hview
  have hg : getS (D.safe k) = 1 := (congrArg Prod.fst hview).symm
  have hr : getR (D.safe k) = r := (congrArg Prod.snd hview).symm
  obtain ⟨p1, p2⟩ := put_get hg
  rw [hr] at p1 p2
  refine ⟨p2.symm, ?_, p1⟩
  cases hh : D.hurt k with
  | false => rfl
  | true => have := hc.hurt k h1 h2 hh; rw [hv] at this; simp at this
theorem Under.lose {D : Dv} {k j : Int} {r : Rc} (h : Under D k r) : Under (loseD j D) k r := by
  unfold loseD
  split
  · exact ⟨h.safe, h.hurt, h.put⟩
  · exact h

/-- One rec written again over its lost block, where the power may fail. -/
theorem mended {D : Dv} {n : Int} {V : Int → Sl} (h : Fine D n V 0) (h0 : 0 ≤ n) {z : Int} (h1 : 0 ≤ z) (h2 : z < n) {r : Rc} (hv : V z = (1, r)) {F : Int} (hF : 0 ≤ F) (fate : Int) :
    ((wrf [(z, r)] (fallD F (loseD z D))).1 = 0 ∨ (wrf [(z, r)] (fallD F (loseD z D))).1 = 5) ∧ ∃ V4, Fine (crashD [fate] (wrf [(z, r)] (fallD F (loseD z D))).2) n V4 0 ∧ (∀ j, j ≠ z → V4 j = V j) ∧ (V4 z = (1, r) ∨ ((V4 z).1 ≠ 1 ∧ (wrf [(z, r)] (fallD F (loseD z D))).1 ≠ 0)) := by
  have hu := (h.under h1 h2 hv).lose (j := z)
  have hl := h.lose h1 h2
  have hc : Calm (fallD F (loseD z D)) n (setF V z (2, Rc.zero)) := hl.calm.like rfl rfl rfl rfl rfl
  have hu2 : Under (fallD F (loseD z D)) z r := ⟨hu.safe, hu.hurt, hu.put⟩
  have hp := phase hc (F := F) (by show max F 0 = F; omega) hF (show (fallD F (loseD z D)).down = false from hl.live.down) h1 h2 hu.put
  have ho : ∀ s : Sl, ∀ j, j ≠ z → setF (setF V z (2, Rc.zero)) z s j = V j := fun s j hj => by rw [setF_other _ _ _ _ hj, setF_other _ _ _ _ hj]
  generalize wrf [(z, r)] (fallD F (loseD z D)) = P at hp
  cases hp with
  | none g1 g2 => exact ⟨.inr rfl, _, g1.crash h0 [fate], fun j hj => setF_other _ _ _ _ hj, .inr ⟨by rw [setF_same]; decide, by show (5 : Int) ≠ 0; decide⟩⟩
  | one g =>
    obtain ⟨s, hs, hfine⟩ := g.crash hc h0 hu2 fate
    refine ⟨.inr rfl, _, hfine, ho s, ?_⟩
    rw [setF_same]
    rcases hs with rfl | rfl
    · exact .inl rfl
    · exact .inr ⟨by decide, by show (5 : Int) ≠ 0; decide⟩
  | done g g1 g2 g3 g4 => exact ⟨.inl rfl, _, g.crash h0 [fate], ho _, .inl (setF_same _ _ _)⟩
theorem crash_p {w0 w : World} {b : Nat} {D : Dv} {O : List Nat} {a : Option Addr} {len cap : Nat} {fs : List Int} (h : DevO w0 w b D O) (hR : Rd w 1 (.slice a len cap) len (fs.map (Value.int .i64))) :
    Calls Try.prog 23 #[.pointer (some ⟨b, 0, none⟩), .slice a len cap] w fun e w' => ∃ b', e = .returned (.pointer (some ⟨b', 0, none⟩)) ∧ DevO w0 w' b' (crashD fs D) O ∧ Ext [] w w' := by
  obtain ⟨⟨F, hF, hl, ho⟩, hx, hok⟩ := h
  refine (crash_any b F D a len cap fs w hF hok hR).mono ?_
  rintro e w' ⟨b', F', rfl, hF', hl', hx'⟩
  have := hx.size
  exact ⟨b', rfl, ⟨⟨F', hF', fun k hk => by have := hl' k hk; omega, fun z hz => ⟨fun hm => by have := hl' z hm; have := (ho z hz).2; omega, Nat.lt_of_lt_of_le (ho z hz).2 hx'.size⟩⟩, hx.then0 hx', hok.crash fs⟩, hx'⟩
theorem open_eq {base : Int} {V V' : Int → Sl} (h : ∀ j : Nat, j < 4 → cpy base V' j = cpy base V j) : openSt base V' = openSt base V := by
  have key : ∀ m : Nat, m ≤ 4 → scanS base V' m = scanS base V m := by
    intro m
    induction m with
    | zero => exact fun _ => rfl
    | succ m ih => intro hm; rw [scanS_succ, scanS_succ, ih (by omega), h m (by omega)]
  unfold openSt
  rw [key 4 (by omega)]
theorem mend_yes {V : Int → Sl} {s : Sto} {i t : Int} {d : List UInt8} (h : Has V s i t d) (k : Nat) (hk : k < (cutL d).length) (D : Dv) : mendX s k (cutL d)[k] D = wrf [(s.b s.area (2 + (k : Int)), chunkRec i k (cutL d)[k])] D := by
  have ha := h.area
  have hl := cutL_piece d k hk
  have hok : mendOk s k (cutL d)[k] := by
    refine ⟨?_, ?_, ?_⟩
    · rw [h.list, ofL_sums_len]; omega
    · rw [h.list]
      show _ = (ofL i t d).sums.getD (k : Int).toNat 0
      simp [ofL, List.getD, hk]
    · rw [h.list]
      show ((cutL d)[k].length : Int) = min 400 ((d.length : Int) - (k : Int) * 400)
      rw [hl.1]
      omega
  unfold mendX mendW
  rw [if_pos hok, h.list]
  rfl
set_option maxRecDepth 100000 in
set_option maxHeartbeats 25600000 in
theorem mended7_any (nn : Int) (hn : -9223372036854775808 ≤ nn ∧ nn ≤ 9223372036854775807) (wh : Int) (hwh : -9223372036854775808 ≤ wh ∧ wh ≤ 9223372036854775807) (fl : Int) (hfl : -9223372036854775808 ≤ fl ∧ fl ≤ 9223372036854775807) (ft : Int) (hft : -9223372036854775808 ≤ ft ∧ ft ≤ 9223372036854775807) (w0 : World) :
    Calls Try.prog 5 #[.int .i64 nn, .int .i64 wh, .int .i64 fl, .int .i64 ft] w0 fun e w' => e = .returned (.bool true) ∧ Ext [] w0 w' := by
  go_enter Try.func5, Try.ntmps5
  go_wp2_with fail
  refine (head7_any w0).mono ?_
  rintro e w1 ⟨rfl, hx1⟩
  go_wp2_with fail
  refine (text7_any (1 + nn % 2048) 5 w1 (by omega)).mono ?_
  rintro e w2 ⟨tx, rfl, htl, hx2⟩
  have htl2 : 1 ≤ tx.length ∧ tx.length ≤ 2048 := by omega
  have HX2 := Hid.of (hx1.then0 hx2)
  clear hx1 hx2 htl
  go_wp2_with fail
  refine (new_n 140 w0 w2 HX2.out).mono ?_
  rintro e w3 ⟨b, rfl, hd, hx3⟩
  have hf := Fine0.new 140 (by omega) (by omega)
  have HF := Hid.of hf
  have HD := Hid.of hd.o
  clear hd hf hx3 HX2
  go_wp2_with fail
  refine (open7_o HD.out HF.out.fine 0 (by omega) (by omega)).mono ?_
  rintro e w4 ⟨q, sv, rfl, hs, hx4, hq⟩
  have hg := Good.new 0
  rw [hg.open] at hs
  have HS4 := Hid.of hs
  obtain ⟨D', V', hX, hf', hg'⟩ := hg.putF HF.out (by omega) (by omega) (show (0 : Int) < 3 by omega) (text_right (i := 3) (t := 3) (d := tx) (by omega) (by omega) (by omega))
  have cp := hs.put7 3 3 tx (by omega) (by simp [newD])
  rw [hX] at cp
  unfold PutTo at cp
  simp only at cp
  have hhas := (hg'.som (show (3 : Int) ≠ 0 by decide)).1
  have hopen := hg'.open
  have hbs := hg'.bas
  have har : (putS ⟨0, -1, Ls.zero⟩ (ofL 3 3 tx)).area = 0 := rfl
  generalize putS ⟨0, -1, Ls.zero⟩ (ofL 3 3 tx) = s at cp hhas hopen hbs har
  have HHas := Hid.of hhas
  have HOpen := Hid.of hopen
  have HF' := Hid.of hf'
  have HG' : Hid (s.base = 0 ∧ s.area = 0 ∧ s.list = ofL 3 3 tx) := Hid.of ⟨hbs, har, hhas.list⟩
  clear hs hx4 hq HD hg hX hf' hg' hhas hopen hbs har HS4 HF
  go_wp2_with fail
  refine cp.mono ?_
  rintro e w5 ⟨sv', rfl, hs5, hk5⟩
  have HS5 := Hid.of hs5
  clear cp hs5 hk5
  go_wp2_with fail
  refine (cut_any tx w5 (by omega)).mono ?_
  rintro e w6 ⟨ss, rfl, ho6, hx6, hv6⟩
  obtain ⟨ps, hps⟩ : ∃ ps, ps = cutL tx := ⟨_, rfl⟩
  rw [← hps] at ho6
  obtain ⟨nk, hnk⟩ : ∃ m, m = ps.length := ⟨_, rfl⟩
  rw [← hnk] at ho6
  obtain ⟨za, zc, rfl⟩ := Rd.isSlice ho6.rd
  have hnk1 : 1 ≤ nk ∧ nk ≤ 6 := by rw [hnk, hps, cutL_length]; omega
  obtain ⟨zg, zo, rfl, hgw, -⟩ := ho6.rd.view (by omega)
  have HZ6 : Hid (Rd w6 1 (.slice (some ⟨zg, zo, none⟩) nk zc) nk (ps.map str)) := Hid.of ho6.rd
  have HS6 := Hid.of (HS5.out.add hx6 zg (hv6 zg (by simp [vblocks])) hgw)
  have HPs := Hid.of hps
  have HNk := Hid.of hnk
  clear ho6 hx6 hv6 hps hnk HS5
  obtain ⟨k, hkk⟩ : ∃ k : Nat, wh % 256 % (nk : Int) = (k : Int) := ⟨(wh % 256 % (nk : Int)).toNat, by rw [Int.toNat_of_nonneg (Int.emod_nonneg _ (by omega))]⟩
  have hk2 : k < nk := by have := Int.emod_lt_of_pos (wh % 256) (show (0 : Int) < nk by omega); omega
  have hkc : k < (cutL tx).length := by have := HNk.out; have h2 := HPs.out; subst h2; omega
  have hwhole := HHas.out.whole k hkc
  have hzb : s.b s.area (2 + (k : Int)) = 2 + (k : Int) := by unfold Sto.b; rw [HG'.out.1, HG'.out.2.1]; omega
  rw [hzb] at hwhole
  have hmd := mended HF'.out.fine (by omega) (z := 2 + (k : Int)) (by omega) (by omega) hwhole (F := fl % 4) (by omega) ft
  have hmx := mend_yes HHas.out k hkc
  rw [hzb] at hmx
  obtain ⟨x, hx⟩ : ∃ x, x = (cutL tx)[k] := ⟨_, rfl⟩
  rw [← hx] at hmd hmx hwhole
  have hxl : x.length ≤ 400 := by rw [hx]; exact (cutL_piece tx k hkc).2.2.1
  have hpx : ps[k]? = some x := by rw [HPs.out, hx]; exact List.getElem?_eq_getElem hkc
  have HMd := Hid.of hmd
  have HMx := Hid.of hmx
  have HPx := Hid.of hpx
  have c1 := lose_o b D' (2 + (k : Int)) w0 w6 _ HS6.out.dev
  clear hmd hmx hwhole hzb hx hpx
  go_wp2_with fail
  refine c1.mono ?_
  rintro e w7 ⟨rfl, hd7, hk7⟩
  have H7 := Hid.of (HS6.out.devt hd7 hk7)
  have HK7 := Hid.of hk7
  have c2 := fall_o b _ (fl % 4) w0 w7 _ H7.out.1.dev (by omega)
  have HZ7 : Hid (Rd w7 1 (.slice (some ⟨zg, zo, none⟩) nk zc) nk (ps.map str)) := Hid.of (H7.out.2.rd HZ6.out (by simp [vblocks]))
  clear c1 hd7 hk7 HK7 HS6 HZ6
  go_wp2_with fail
  refine c2.mono ?_
  rintro e w8 ⟨rfl, hd8, hk8⟩
  have H8 := Hid.of (H7.out.1.devt hd8 hk8)
  have HZ8 : Hid (Rd w8 1 (.slice (some ⟨zg, zo, none⟩) nk zc) nk (ps.map str)) := Hid.of (H8.out.2.rd HZ7.out (by simp [vblocks]))
  obtain ⟨g9, o9, e9, -, hc9⟩ := HZ8.out.view (by omega)
  cases e9
  have c0 : w8.cell? ⟨zg, zo + k, none⟩ = some (str x) := hc9 k _ (by rw [List.getElem?_map, HPx.out]; rfl)
  have cm := H8.out.1.mend7 (k : Int) x (by omega) (by show (fallD (fl % 4) (loseD (2 + (k : Int)) D')).since.length ≤ 900000; have h1 := (HF'.out.fine.lose (b := 2 + (k : Int)) (by omega) (by omega)).since; show (loseD (2 + (k : Int)) D').since.length ≤ 900000; omega)
  rw [HMx.out] at cm
  generalize hP : wrf [(2 + (k : Int), chunkRec 3 k x)] (fallD (fl % 4) (loseD (2 + (k : Int)) D')) = P at cm
  have HMd2 := Hid.of (hP ▸ HMd.out)
  obtain ⟨E, D9⟩ := P
  simp only at cm
  clear c2 hd8 hk8 HZ7 hc9 hP HMd
  go_wp2_with fail
  refine cm.mono ?_
  rintro e w9 ⟨rfl, hs9, hk9⟩
  have HS9 := Hid.of hs9
  have HZ9 : Hid (Rd w9 1 (.slice (some ⟨zg, zo, none⟩) nk zc) nk (ps.map str)) := Hid.of (hk9.rd HZ8.out (by simp [vblocks]))
  clear cm hs9 hk9 c0 HZ8 H8 H7
  go_wp2_with fail
  have cc := crash_p (fs := [ft]) ((HS9.out.keep ((Ext.refl [] w9).alloc (.cells #[.int .i64 ft] 46))).dev) (Rd.lit w9 #[.int .i64 ft] 46 1 1 rfl (by unfold maxLen; omega))
  refine cc.mono ?_
  rintro e w10 ⟨b', rfl, hd10, hx10⟩
  obtain ⟨hE05, V4, hf4, ho4, hz4⟩ := HMd2.out
  have hop : openSt 0 V4 = s := by
    rw [← HOpen.out]
    refine open_eq (fun j hj => ?_)
    unfold cpy
    exact ho4 _ (by omega)
  have HZ10 : Hid (Rd w10 1 (.slice (some ⟨zg, zo, none⟩) nk zc) nk (ps.map str)) := Hid.of (HZ9.out.keep (((Ext.refl [] w9).alloc _).then0 hx10) (by simp))
  have co := open7_o (O := []) (hd10.sub (by simp)) hf4 0 (by omega) (by omega)
  rw [hop] at co
  have HF4 := Hid.of hf4
  have HO4 := Hid.of ho4
  have HZ4 := Hid.of hz4
  have HE05 := Hid.of hE05
  clear cc hd10 hx10 hf4 ho4 hz4 hop HS9 HZ9 HMd2
  go_wp2_with fail
  refine co.mono ?_
  rintro e w11 ⟨q', sv9, rfl, hs11, hx11, -⟩
  have HS11 := Hid.of hs11
  have HZ11 : Hid (Rd w11 1 (.slice (some ⟨zg, zo, none⟩) nk zc) nk (ps.map str)) := Hid.of (HZ10.out.keep hx11 (by simp))
  clear co hs11 hx11 HZ10
  have hE2 : E = 0 ∨ E = 5 := hE05
  go_upto_region 16 with fail
  go_cut [83] (fun u wx => u = .bool false ∧ Hid (Ext [] w11 wx))
  case first =>
    rcases hE2 with rfl | rfl
    · go_wp2_with fail
      go_meet
      exact ⟨rfl, Ext.refl _ _⟩
    · go_wp2_with fail
      go_meet
      exact ⟨rfl, Ext.refl _ _⟩
  case rest =>
    obtain ⟨rfl, HX12⟩ := hcut
    obtain ⟨w12, hw12⟩ : ∃ w, w = wc := ⟨_, rfl⟩
    rw [← hw12] at HX12 ⊢
    have HS12 := Hid.of (HS11.out.keep HX12.out)
    have HZ12 : Hid (Rd w12 1 (.slice (some ⟨zg, zo, none⟩) nk zc) nk (ps.map str)) := Hid.of (HZ11.out.keep HX12.out (by simp))
    have HE2 := Hid.of hE2
    clear hw12 HS11 HZ11 HX12 hE2 hE05
    go_upto_region 19 with fail
    go_loopw [86] (fun u86 wr => ∃ i : Nat, u86 = .int .i64 (i : Int) ∧ i ≤ nk ∧ Hid (Ext [] w12 wr)) (fun u86 _ => nk - (intOf u86).toNat)
    case atStart => exact ⟨0, rfl, by omega, Ext.refl _ _⟩
    case round =>
      obtain ⟨i, rfl, hi, hX⟩ := hrel
      by_cases hil : i < nk
      · have hip : i < ps.length := by have := HNk.out; omega
        obtain ⟨y, hy⟩ : ∃ y, ps[i]? = some y := ⟨_, List.getElem?_eq_getElem hip⟩
        obtain ⟨g9, o9, e9, -, hc9⟩ := (HZ12.out.keep hX.out (by simp) : Rd wr 1 _ _ _).view (by omega)
        cases e9
        have c0 : wr.cell? ⟨zg, zo + i, none⟩ = some (str y) := hc9 i _ (by rw [List.getElem?_map, hy]; rfl)
        have hic : i < (cutL tx).length := by have := HNk.out; have h2 := HPs.out; subst h2; omega
        have hyc : (cutL tx)[i] = y := by have h2 := HPs.out; subst h2; exact (List.getElem?_eq_some_iff.1 hy).2
        have cc := (HS12.out.keep hX.out).chunk HF4.out (i : Int)
        unfold ChPost at cc
        have hzi : s.b s.area (2 + (i : Int)) = 2 + (i : Int) := by unfold Sto.b; rw [HG'.out.1, HG'.out.2.1]; omega
        have hi1 : (i : Int) < (nk : Int) := by omega
        by_cases hik : i = k
        · subst hik
          have hxy : y = x := by have h2 := HPx.out; rw [hy] at h2; exact Option.some.inj h2
          subst hxy
          have hii : ((i : Int) == (i : Int)) = true := by simp
          rcases HZ4.out with hz | ⟨hz1, hz2⟩
          · obtain ⟨e1, e2⟩ := ch_in (V := V4) HHas.out.area HG'.out.2.2 i hic (by rw [hzi, hz, hyc])
            rw [e1, e2, hyc] at cc
            clear hc9 hy hyc hic hzi e1 e2 hz
            go_wp2_with fail
            refine cc.mono ?_
            rintro e w13 ⟨rfl, hx13⟩
            have HX13 := Hid.of (hX.out.then0 hx13)
            clear cc hx13 c0
            go_wp2
            go_roundw
            case rel => exact ⟨i + 1, by go_num, by omega, HX13⟩
            case measure => simp [intOf]; omega
          · have e1 := ch_bad (V := V4) HHas.out.area HG'.out.2.2 i hic (by rw [hzi]; exact hz1)
            have e2 : s.chV V4 i = [] := by unfold Sto.chV; rw [if_neg (by rw [e1]; decide)]
            rw [e1, e2] at cc
            obtain rfl : E = 5 := HE2.out.resolve_left hz2
            clear hc9 hy hyc hic hzi e1 e2 hz1 hz2
            go_wp2_with fail
            refine cc.mono ?_
            rintro e w13 ⟨rfl, hx13⟩
            have HX13 := Hid.of (hX.out.then0 hx13)
            clear cc hx13 c0
            go_wp2
            go_roundw
            case rel => exact ⟨i + 1, by go_num, by omega, HX13⟩
            case measure => simp [intOf]; omega
        · have hii : ((i : Int) == (k : Int)) = false := beq_false_of_ne (by omega)
          have hz := HO4.out (2 + (i : Int)) (by omega)
          obtain ⟨e1, e2⟩ := ch_in (V := V4) HHas.out.area HG'.out.2.2 i hic (by rw [hzi, hz, ← hzi]; exact HHas.out.whole i hic)
          rw [e1, e2, hyc] at cc
          clear hc9 hy hyc hic hzi e1 e2 hz
          go_wp2_with fail
          refine cc.mono ?_
          rintro e w13 ⟨rfl, hx13⟩
          have HX13 := Hid.of (hX.out.then0 hx13)
          clear cc hx13 c0
          go_wp2
          go_roundw
          case rel => exact ⟨i + 1, by go_num, by omega, HX13⟩
          case measure => simp [intOf]; omega
      · obtain rfl : i = nk := by omega
        have HXe := Hid.of (HS12.out.dev.ext.then0 hX.out)
        go_wp2
        go_ret
        exact ⟨rfl, HXe.out⟩
end Go.Proofs.Ytlnfigbcdmfmdaa
