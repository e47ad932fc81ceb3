/- PlogMends: the walk. -/
import Derived.Test.YtmjgbkepngeckaaPmd
namespace Go.Proofs.Ytmjgbkepngeckaa
open Go.RowKit
set_option linter.unusedVariables false
set_option linter.unusedSimpArgs false
attribute [local go_sem] i64_and3 i64_and7 i64_and255

theorem el_ents : Elem Try.prog 33 37 (.agg #[.int .i64 0, .int .i64 0, .string ByteArray.empty]) 3 32 := Elem.mk' Try.underlying33 rfl (by kernel_rfl)
def mEnt (j : Nat) : Ent := ⟨(j : Int) + 1, 2, [UInt8.ofNat (98 + j)]⟩
def mList (k : Nat) : List Ent := (List.range k).map mEnt
theorem mList_len (k : Nat) : (mList k).length = k := by simp [mList]
theorem mList_get (k j : Nat) (h : j < (mList k).length) : (mList k)[j] = mEnt j := by simp [mList]
theorem mList_succ (k : Nat) : mList (k + 1) = mList k ++ [mEnt k] := by simp [mList, List.range_succ]
theorem chkE_mk (f : Nat → Ent) : ∀ (k m : Nat) (i : Int), (∀ j, m ≤ j → j < m + k → (f j).idx = i + ((j - m : Nat) : Int) ∧ ¬ (f j).bad) → chkE i ((List.range' m k).map f) = 0 := by
  intro k
  induction k with
  | zero => intro m i _; rfl
  | succ k ih =>
    intro m i h
    rw [List.range'_succ, List.map_cons]
    unfold chkE
    obtain ⟨h1, h2⟩ := h m (Nat.le_refl _) (by omega)
    rw [if_neg (fun g => g (by rw [h1]; simp)), if_neg h2]
    refine ih (m + 1) (i + 1) fun j h3 h4 => ?_
    obtain ⟨h5, h6⟩ := h j (by omega) (by omega)
    exact ⟨by rw [h5]; omega, h6⟩
theorem mEnt_ok (j : Nat) : ¬ (mEnt j).bad ∧ (mEnt j).i64 ∨ 1000 < j := by
  by_cases h : 1000 < j
  · exact .inr h
  · refine .inl ⟨?_, ?_⟩
    · unfold Ent.bad mEnt
      simp
    · exact ent_i64 (by omega) (by omega) (by omega) (by omega) (by simp)
theorem mList_app (N : Nat) (h : N ≤ 4) : appE8 1 [] (mList N) = 0 ∧ appA8 1 [] (mList N) = mList N := by
  have h0 : appE8 1 [] (mList N) = 0 := by
    unfold appE8
    rw [mList_len, if_neg (by simp; omega)]
    have := chkE_mk mEnt N 0 1 (fun j _ h2 => ⟨by show (j : Int) + 1 = _; omega, ((mEnt_ok j).resolve_right (by omega)).1⟩)
    rw [mList, List.range_eq_range']
    exact this
  exact ⟨h0, by unfold appA8; rw [if_pos h0, List.nil_append]⟩
theorem MC.keep {w0 w w' : World} {b : Nat} {L0 : Lg} {list : List Ent} {k : Nat} {fate r : Int} {O : List Nat} (h : MC w0 w b L0 list k fate r O) (hx : Ext [] w w') : MC w0 w' b L0 list k fate r O := by
  obtain ⟨D, h1, h2⟩ := h
  exact ⟨D, h1.keep hx, h2⟩
theorem MZ.add {w0 w w' : World} {q b : Nat} {list : List Ent} {k : Nat} {r : Int} {O : List Nat} (h : MZ w0 w q b list k r O) (hx : Ext [] w w') (z : Nat) (h1 : w.heap.size ≤ z) (h2 : z < w'.heap.size) : MZ w0 w' q b list k r (z :: O) := by
  obtain ⟨L, V, eb, mb, kn, h3, h4⟩ := h
  exact ⟨L, V, eb, mb, kn, h3.add hx z h1 h2, h4⟩
theorem MZ.sub {w0 w : World} {q b : Nat} {list : List Ent} {k : Nat} {r : Int} {O O' : List Nat} (h : MZ w0 w q b list k r O) (hs : ∀ z ∈ O', z ∈ O) : MZ w0 w q b list k r O' := by
  obtain ⟨L, V, eb, mb, kn, h3, h4⟩ := h
  exact ⟨L, V, eb, mb, kn, h3.sub hs, h4⟩
set_option maxRecDepth 100000 in
set_option maxHeartbeats 12800000 in
theorem pmends_any (n : Int) (_ : -9223372036854775808 ≤ n ∧ n ≤ 9223372036854775807) (which : Int) (_ : -9223372036854775808 ≤ which ∧ which ≤ 9223372036854775807) (mark : Bool) (fall : Int) (_ : -9223372036854775808 ≤ fall ∧ fall ≤ 9223372036854775807) (fate : Int) (_ : -9223372036854775808 ≤ fate ∧ fate ≤ 9223372036854775807) (w : World) :
    Calls Try.prog 8 #[.int .i64 n, .int .i64 which, .bool mark, .int .i64 fall, .int .i64 fate] w fun e w' => e = .returned (.bool true) ∧ Ext [] w w' := by
  have hN0 : 0 ≤ n % 4 := Int.emod_nonneg _ (by decide)
  have hN1 : n % 4 < 4 := Int.emod_lt_of_pos _ (by decide)
  have hB0 : 0 ≤ which % 256 := Int.emod_nonneg _ (by decide)
  have hB1 : which % 256 < 256 := Int.emod_lt_of_pos _ (by decide)
  have hF0 : 0 ≤ fall % 8 := Int.emod_nonneg _ (by decide)
  have hF1 : fall % 8 < 8 := Int.emod_lt_of_pos _ (by decide)
  obtain ⟨N, hN⟩ : ∃ N : Nat, 1 + n % 4 = (N : Int) := ⟨(1 + n % 4).toNat, by omega⟩
  have hNl : 1 ≤ N ∧ N ≤ 4 := by omega
  obtain ⟨hNa, hNb⟩ := hNl
  have hNz : ((N : Int) == 0) = false := by simp; omega
  obtain ⟨K, hK⟩ : ∃ K : Nat, which % 256 % N = (K : Int) := ⟨(which % 256 % N).toNat, by
    have := Int.emod_nonneg (which % 256) (show (N : Int) ≠ 0 by omega); omega⟩
  have hKN : K < N := by
    have := Int.emod_lt_of_pos (which % 256) (show (0 : Int) < N by omega)
    omega
  go_enter Try.func8, Try.ntmps8
  go_upto_region 3 with (first
    | (go_at_call 11; (with_reducible refine (head6_any _).mono ?_); rintro e w1 ⟨rfl, hx1⟩; have HX1 := Hid.of hx1; clear hx1))
  have cn := neww w w1 HX1.out [] (by simp)
  go_upto_region 7 with (first
    | (go_at_call 13; (with_reducible refine cn.mono ?_); intro e w2 hq; obtain ⟨wq, b, q, rfl, hst, hk⟩ := NewW.st hq; have HS2 := Hid.of hst; clear hq hst hk cn))
  go_upto_region 9 with fail
  have HI : Hid (w2.heap.size = w2.heap.size) := Hid.of rfl
  go_loopw [12, 13] (fun u12 u13 wr => ∃ (k : Nat), u13 = .int .i64 ((k : Int) + 1) ∧ k ≤ N ∧ Hid (Own wr 37 3 u12 k ((mList k).flatMap Ent.cells)) ∧ Hid (∀ z ∈ vblocks u12, w2.heap.size ≤ z) ∧ Hid (Ext [] w2 wr)) (fun _ u13 _ => N + 1 - (intOf u13).toNat)
  case atStart => exact ⟨0, rfl, by omega, Own.lit w2 #[] _ 3 0 rfl (by omega), fun z hz => by simp [vblocks] at hz; omega, (Ext.refl _ _).alloc _⟩
  case round =>
    obtain ⟨k, rfl, hk, hO, hV, hX⟩ := hrel
    by_cases hkN : k < N
    · have hw1 : IntKind.u8.wrap ((k : Int) + 1) = (k : Int) + 1 := by rw [IntKind.wrap_u8]; omega
      obtain ⟨c, hcc⟩ : ∃ c, c = UInt8.ofNat (98 + k) := ⟨_, rfl⟩
      have hc : (97 : Int) + ((k : Int) + 1) = (c.toNat : Int) := by rw [hcc, UInt8.toNat_ofNat']; omega
      have HM : Hid (mList (k + 1) = mList k ++ [⟨(k : Int) + 1, 2, [c]⟩]) := Hid.of (by rw [mList_succ, hcc]; rfl)
      have hcv := run_string_Rd (P := Try.prog) (w := wr.alloc (.cells #[.int .u8 (97 + ((k : Int) + 1))] 5)) 62 9 5 Try.underlying62 Try.underlying5 Try.underlying9 _ 1 _ (Rd.byte hc)
      obtain ⟨Wb, hWb⟩ : ∃ W, W = wr.alloc (.cells #[.int .u8 (97 + ((k : Int) + 1))] 5) := ⟨_, rfl⟩
      have xb : Ext [] wr Wb := by rw [hWb]; exact (Ext.refl _ _).alloc _
      have hO1 := (hO.out.keep xb (by simp)).alloc (.cells #[.int .i64 ((k : Int) + 1), .int .i64 2, .string ⟨#[c]⟩] 37)
      have HX1 := Hid.of ((hX.out.then0 xb).alloc (.cells #[.int .i64 ((k : Int) + 1), .int .i64 2, .string ⟨#[c]⟩] 37))
      have HW0 : Hid (w2.heap.size ≤ wr.heap.size) := Hid.of hX.out.size
      have HWb := Hid.of hWb
      clear hc hcc xb
      have hone : ∀ u ∈ ([⟨(k : Int) + 1, 2, [c]⟩] : List Ent).flatMap Ent.cells, u.oneCell' = true := by
        intro u hu
        simp [Ent.cells] at hu
        rcases hu with rfl | rfl | rfl <;> rfl
      go_wp2_with (refine wpl_append (d := some 48) 37 (.agg #[.int .i64 0, .int .i64 0, .string ByteArray.empty]) 3 32 el_ents u12 k ((mList k).flatMap Ent.cells) ?_ (by rw [← hWb]; exact hO1) (.slice (some ⟨(wr.alloc (.cells #[.int .u8 (97 + ((k : Int) + 1))] 5)).heap.size, 0, none⟩) 1 1) 1 ([⟨(k : Int) + 1, 2, [c]⟩].flatMap Ent.cells) ?_ (Rd.lit (wr.alloc (.cells #[.int .u8 (97 + ((k : Int) + 1))] 5)) #[.int .i64 ((k : Int) + 1), .int .i64 2, .string ⟨#[c]⟩] 37 3 1 rfl (by unfold maxLen; omega)) hone (by omega) (by unfold maxLen; omega) ?_)
      intro v' w' ho' hx' hv'
      rw [← hWb] at hx'
      have HX2 := Hid.of (HX1.out.trans hx' (fun z hz => .inr (hV.out z hz)))
      have HV2 : Hid (∀ z ∈ vblocks v', w2.heap.size ≤ z) := Hid.of (fun z hz => by rcases hv' with h | h; exact hV.out z (h ▸ hz); exact (by rw [h] at hz; simp at hz; have := HW0.out; omega))
      have HO2 : Hid (Own w' 37 3 v' (k + 1) ((mList (k + 1)).flatMap Ent.cells)) := Hid.of (by rw [HM.out, List.flatMap_append]; exact ho')
      clear hx' hv' ho' hO1 hcv HX1 hone hWb HWb HM HW0 hO hX hV
      go_wp2
      exact ⟨⟨k + 1, by congr 1, by omega, HO2, HV2, HX2⟩, by simp [intOf]; omega⟩
    · obtain rfl : k = N := by omega
      obtain ⟨la, lc, rfl⟩ := Rd.isSlice hO.out.rd
      obtain ⟨g, off, rfl, hgw, hcells⟩ := hO.out.rd.view (by omega)
      have hgl : g < wr.heap.size := by have := hO.out.lt g (by simp [vblocks]); exact this
      have hg2 : w2.heap.size ≤ g := hV.out g (by simp [vblocks])
      have HS3 := Hid.of (HS2.out.add hX.out g hg2 hgl)
      have HRl := Hid.of hO.out.rd
      have hma := mList_app k hNb
      have ca := HS3.out.append (mList k) (some ⟨g, off, none⟩) k lc hO.out.rd (by simp [vblocks]) (fun e he => by
        obtain ⟨j, hj, rfl⟩ := List.mem_map.1 he
        exact ((mEnt_ok j).resolve_right (by have := List.mem_range.1 hj; omega)).2)
      rw [hma.1, hma.2] at ca
      have cq : wr.cell? ⟨wq, 1, none⟩ = some (.pointer (some ⟨q, 0, none⟩)) := Blk.c HS3.out.blk 1
      clear hma hgw hcells hO hX hV hgl hg2 HS2
      go_upto_region 15 with (first
        | (go_at_call 26; (with_reducible refine ca.mono ?_); rintro e w3 ⟨rfl, h3, hk3⟩; have H3 := Hid.of h3; have HR3 := Hid.of (hk3.rd HRl.out (by simp [vblocks])); clear h3 hk3 ca))
      clear cq HRl HS3
      have c0 : w3.cell? ⟨wq, 0, none⟩ = some (.pointer (some ⟨b, 0, none⟩)) := Blk.c H3.out.blk 0
      obtain ⟨L0, V0, hW0, hSo, e1, e2, e3⟩ := H3.out
      have hLx := hW0.log.sub (O' := [g]) (by simp)
      have hok := hLx.ok
      have HE0 := Hid.of (And.intro hok (And.intro e1 (And.intro e2 e3)))
      have HLx := Hid.of hLx
      have HSo := Hid.of hSo
      have hKl : K < (mList k).length := by rw [mList_len]; exact hKN
      have HKl := Hid.of hKl
      have hA : L0.a (1 + K) = 3 + (1 + (K : Int)) % 8 := by unfold Lg.a; rw [e1, e2]
      have hB : L0.b (1 + K) = 11 + (1 + (K : Int)) % 8 := by unfold Lg.b; rw [e1, e2]; omega
      have hP : (K : Int) + 1 < 8 ∧ (1 + (K : Int)) % 8 = (K : Int) + 1 := by omega
      rw [hP.2] at hA hB
      have cl1 := hLx.lose1 hSo e3 hKl
      have cl2 := fun w' (h : MP w w' b L0 (mList k) K noBad [g]) => h.lose2 hok e3
      rw [hA] at cl1
      rw [hB] at cl2
      have hP2 : ((K : Int) + 1).tmod 8 = (K : Int) + 1 := by rw [Int.tmod_eq_emod_of_nonneg (by omega)]; omega
      clear hW0 hSo e1 e2 e3 hLx hok hKl hA hB hP H3
      go_upto_region 17 with (first
        | (go_at_call 28; (with_reducible refine cl1.mono ?_); rintro e w4 ⟨rfl, hmp4, hk4⟩; have HMP4 := Hid.of hmp4; have HR4 := Hid.of (hk4.rd HR3.out (by simp [vblocks])); clear hmp4 hk4 cl1))
      clear c0
      go_upto_if 70 with fail
      go_cut [] (fun wx => ∃ mb, Hid (MP w wx b L0 (mList k) K mb [g]) ∧ Hid (Rd wx 3 (.slice (some ⟨g, off, none⟩) k lc) k ((mList k).flatMap Ent.cells)))
      case first =>
        have cl3 := cl2 w4 HMP4.out
        cases mark with
        | false =>
          go_wp2
          go_meet
          exact ⟨_, HMP4, HR4⟩
        | true =>
          go_wp2_with (first
            | (go_at_call 28; (with_reducible refine cl3.mono ?_); rintro e w5 ⟨rfl, hmp5, hk5⟩; have HMP5 := Hid.of hmp5; have HR5 := Hid.of (hk5.rd HR4.out (by simp [vblocks])); clear hmp5 hk5 cl3))
          go_meet
          exact ⟨_, HMP5, HR5⟩
      case rest =>
        obtain ⟨mb, HMP5, HR5⟩ := hcut
        clear cl2 HR4 HMP4 HR3
        have co := HMP5.out.open1 HE0.out.1 HE0.out.2.1 HE0.out.2.2.1 HE0.out.2.2.2
        go_upto_region 20 with (first
          | (go_at_call 20; (with_reducible refine co.mono ?_); rintro e w6 ⟨q6, rfl, hmo, hk6⟩; have HMO6 := Hid.of hmo; have HR6 := Hid.of (hk6.rd HR5.out (by simp [vblocks])); clear hmo hk6 co))
        have cla := HMO6.out.last_c
        rw [mList_len] at cla
        have chu := fun w' (hx : Ext [] w6 w') => (HMO6.out.keep hx).hurt_c
        rw [show (1 : Int) + K = (K : Int) + 1 by omega] at chu
        go_upto_region 22 with (first
          | (go_at_call 21; (with_reducible refine cla.mono ?_); rintro e w7 ⟨rfl, hx7⟩; have ch7 := chu w7 hx7; have HX7 := Hid.of hx7; clear hx7 cla chu)
          | (go_at_call 19; (with_reducible refine ch7.mono ?_); rintro e w8 ⟨rfl, hx8⟩; have HMO8 := Hid.of (HMO6.out.keep (HX7.out.then0 hx8)); have HR8 := Hid.of (HR6.out.keep (HX7.out.then0 hx8) (by simp)); clear hx8 ch7))
        have cf := HMO8.out.fall (fall % 8) (by omega)
        go_upto_region 23 with (first
          | (go_at_call 31; (with_reducible refine cf.mono ?_); rintro e w9 ⟨rfl, hmf, hk9⟩; have HMF9 := Hid.of hmf; have HR9 := Hid.of (hk9.rd HR8.out (by simp [vblocks])); clear hmf hk9 cf))
        obtain ⟨hKk, -⟩ := HMF9.out
        obtain ⟨g', off', hga, hgw, hc⟩ := HR9.out.view (by omega)
        obtain ⟨rfl, rfl⟩ : g = g' ∧ off = off' := by simp at hga; exact hga
        have hx : (mList k)[K] = mEnt K := mList_get k K hKk
        have c0 : w9.cell? ⟨g, off + K * 3, none⟩ = some (.int .i64 ((K : Int) + 1)) := hc (K * 3 + 0) _ (by rw [flatMap_get _ 3 ecells_len _ K 0 hKk (by omega), hx]; rfl)
        have c1 : w9.cell? ⟨g, off + (K * 3 + 1), none⟩ = some (.int .i64 2) := hc (K * 3 + 1) _ (by rw [flatMap_get _ 3 ecells_len _ K 1 hKk (by omega), hx]; rfl)
        have c2 : w9.cell? ⟨g, off + (K * 3 + 2), none⟩ = some (str [UInt8.ofNat (98 + K)]) := hc (K * 3 + 2) _ (by rw [flatMap_get _ 3 ecells_len _ K 2 hKk (by omega), hx]; rfl)
        rw [← Nat.add_assoc] at c1 c2
        have cm := HMF9.out.mend HE0.out.1 HE0.out.2.2.2 (by omega) fate (mEnt K) hx ((mEnt_ok K).resolve_right (by omega)).1
        unfold mEnt Ent.val at cm
        obtain ⟨ck, hck⟩ : ∃ ck, ck = UInt8.ofNat (98 + K) := ⟨_, rfl⟩
        have HCk := Hid.of hck
        rw [← hck] at c2 cm
        clear hck hgw hc hx hga
        go_upto_region 24 with (first
          | (go_at_call 22; (with_reducible refine cm.mono ?_); rintro e w10 ⟨r, rfl, hr, hmc, hk10⟩; have HMC10 := Hid.of hmc; have HR10 := Hid.of (hk10.rd HR9.out (by simp [vblocks])); have HRr := Hid.of hr; clear hmc hk10 hr cm))
        have cc := fun w' (hx : Ext [] w10 w') => (HMC10.out.keep hx).crash
        have cc2 := cc (w10.alloc (.cells #[.int .i64 fate] 70)) ((Ext.refl _ _).alloc _) (some ⟨w10.heap.size, 0, none⟩) 1 1 (Rd.ints1 fate)
        have HR10a := Hid.of (HR10.out.alloc (.cells #[.int .i64 fate] 70))
        clear cc c0 c1 c2
        go_upto_region 25 with (first
          | (go_at_call 24; (with_reducible refine cc2.mono ?_); rintro e w11 ⟨b2, rfl, hmx, hx11⟩; have co2 := hmx.open2 HE0.out.2.1 HE0.out.2.2.1 HE0.out.2.2.2; have HR11 := Hid.of (HR10a.out.keep hx11 (by simp)); clear hmx hx11 cc2))
        go_upto_region 26 with (first
          | (go_at_call 20; (with_reducible refine co2.mono ?_); rintro e w12 ⟨q12, rfl, hmz, hk12⟩; have HMZ12 := Hid.of hmz; have HR12 := Hid.of (hk12.rd HR11.out (by simp [vblocks])); clear hmz hk12 co2))
        have cla := HMZ12.out.last_c
        rw [mList_len] at cla
        go_cut [131] (fun v wx => v = .bool false ∧ Hid (MZ w wx q12 b2 (mList k) K r [g]) ∧ Hid (Rd wx 3 (.slice (some ⟨g, off, none⟩) k lc) k ((mList k).flatMap Ent.cells)))
        case first =>
          rcases HRr.out with rfl | rfl
          all_goals (
            go_wp2_with (first
              | (go_at_call 21; (with_reducible refine cla.mono ?_); rintro e w13 ⟨rfl, hx13⟩; have HMZ13 := Hid.of (HMZ12.out.keep hx13); have HR13 := Hid.of (HR12.out.keep hx13 (by simp)); clear hx13 cla))
            go_meet
            exact ⟨rfl, HMZ13, HR13⟩)
        case rest =>
          obtain ⟨rfl, HMZ13, HR13⟩ := hcut
          clear cla HMZ12 HR12
          go_upto_region 29 with fail
          go_loopw [134] (fun u134 wr => ∃ (j : Nat), u134 = .int .i64 (j : Int) ∧ j ≤ k ∧ Hid (MZ w wr q12 b2 (mList k) K r [g]) ∧ Hid (Rd wr 3 (.slice (some ⟨g, off, none⟩) k lc) k ((mList k).flatMap Ent.cells))) (fun u134 _ => k - (intOf u134).toNat)
          case atStart => exact ⟨0, rfl, by omega, HMZ13, HR13⟩
          case round =>
            obtain ⟨j, rfl, hj, hZ, hR⟩ := hrel
            by_cases hjk : j < k
            · have hjl : j < (mList k).length := by rw [mList_len]; exact hjk
              obtain ⟨g', off', hga, hgw, hc⟩ := hR.out.view (by omega)
              obtain ⟨rfl, rfl⟩ : g = g' ∧ off = off' := by simp at hga; exact hga
              have hx : (mList k)[j] = mEnt j := mList_get k j hjl
              have c0 : wr.cell? ⟨g, off + j * 3, none⟩ = some (.int .i64 ((j : Int) + 1)) := hc (j * 3 + 0) _ (by rw [flatMap_get _ 3 ecells_len _ j 0 hjl (by omega), hx]; rfl)
              have c1 : wr.cell? ⟨g, off + (j * 3 + 1), none⟩ = some (.int .i64 2) := hc (j * 3 + 1) _ (by rw [flatMap_get _ 3 ecells_len _ j 1 hjl (by omega), hx]; rfl)
              have c2 : wr.cell? ⟨g, off + (j * 3 + 2), none⟩ = some (str [UInt8.ofNat (98 + j)]) := hc (j * 3 + 2) _ (by rw [flatMap_get _ 3 ecells_len _ j 2 hjl (by omega), hx]; rfl)
              rw [← Nat.add_assoc] at c1 c2
              obtain ⟨cj, hcj⟩ : ∃ ck, ck = UInt8.ofNat (98 + j) := ⟨_, rfl⟩
              have hxe : (mList k)[j] = ⟨(j : Int) + 1, 2, [cj]⟩ := by rw [hx, hcj]; rfl
              rw [← hcj] at c2
              have hgl : g < wr.heap.size := World.block_lt_of_cell? wr ⟨g, off + j * 3, none⟩ c0
              obtain ⟨E, hE⟩ : ∃ E, E = wr.heap.size := ⟨_, rfl⟩
              obtain ⟨W, hW⟩ : ∃ W, W = wr.alloc (.cells #[.int .i64 ((j : Int) + 1), .int .i64 2, .string ⟨#[cj]⟩] 37) := ⟨_, rfl⟩
              have hEW : Blk W E 37 [.int .i64 ((j : Int) + 1), .int .i64 2, str [cj]] := by rw [hE, hW]; exact Blk.new wr 37 #[.int .i64 ((j : Int) + 1), .int .i64 2, str [cj]]
              have xW : Ext [] wr W := by rw [hW]; exact (Ext.refl _ _).alloc _
              have hZW := hZ.out.add xW E (by omega) hEW.lt
              have HEW := Hid.of hEW
              have HRW := Hid.of (hR.out.keep xW (by simp))
              have cr := hZW.read j ⟨(j : Int) + 1, 2, [cj]⟩ hjl hxe (by show (1 : Int) ≤ 2; omega)
              simp only [Ent.val] at cr
              clear hcj hxe hga hgw hc hx hEW xW hZW
              go_upto_region 31 with fail
              rw [← hE, ← hW]
              clear hE hW c0 c1 c2
              go_upto_region 32 with (first
                | (go_at_call 18; (with_reducible refine cr.mono ?_); rintro e w4 ⟨⟨yi, yt, yd⟩, st, rfl, hm, hz4, hk4⟩; have HZ4 := Hid.of ((hz4.keep ((Ext.refl [] w4).alloc (.cells #[.int .i64 yi, .int .i64 yt, str yd] 37))).sub (O' := [g]) (by simp)); have HR4 := Hid.of ((hk4.rd HRW.out (by simp [vblocks])).alloc (.cells #[.int .i64 yi, .int .i64 yt, str yd] 37)); have HE4 := Hid.of ((hk4.blk HEW.out (by simp)).alloc (.cells #[.int .i64 yi, .int .i64 yt, str yd] 37)); have HM4 := hm; clear hz4 hk4 hm cr))
              obtain ⟨W5, hW5⟩ : ∃ W, W = w4.alloc (.cells #[.int .i64 yi, .int .i64 yt, .string ⟨yd.toArray⟩] 37) := ⟨_, rfl⟩
              have HF5 : Hid (Blk W5 w4.heap.size 37 [.int .i64 yi, .int .i64 yt, str yd]) := Hid.of (by rw [hW5]; exact Blk.new w4 37 #[.int .i64 yi, .int .i64 yt, str yd])
              rw [show str yd = Value.string ⟨yd.toArray⟩ from rfl, ← hW5] at HZ4 HR4 HE4
              rw [← hW5]
              clear hW5 HEW HRW
              generalize w4.heap.size = F at HF5 ⊢
              have e0 : W5.cell? ⟨E, 0, none⟩ = some (.int .i64 ((j : Int) + 1)) := Blk.c HE4.out 0
              have e1 : W5.cell? ⟨E, 1, none⟩ = some (.int .i64 2) := Blk.c HE4.out 1
              have e2 : W5.cell? ⟨E, 2, none⟩ = some (.string ⟨#[cj]⟩) := Blk.c HE4.out 2
              have d0 : W5.cell? ⟨F, 0, none⟩ = some (.int .i64 yi) := Blk.c HF5.out 0
              have d1 : W5.cell? ⟨F, 1, none⟩ = some (.int .i64 yt) := Blk.c HF5.out 1
              have d2 : W5.cell? ⟨F, 2, none⟩ = some (.string ⟨yd.toArray⟩) := Blk.c HF5.out 2
              go_cut [178] (fun v wx => v = .bool false ∧ wx = W5)
              case first =>
                rcases HM4.out with ⟨rfl, hy⟩ | ⟨rfl, hr0, hst⟩
                · obtain ⟨rfl, rfl, rfl⟩ : yi = (j : Int) + 1 ∧ yt = 2 ∧ yd = [cj] := by simpa using hy
                  clear hy HM4
                  rcases HRr.out with rfl | rfl
                  · by_cases hjK : j = K
                    · subst hjK
                      go_wp2
                      go_meet
                      exact ⟨rfl, rfl⟩
                    · have hjb2 : ¬ (j : Int) = (K : Int) := by omega
                      have hjb : ((j : Int) == (K : Int)) = false := by simp [hjb2]
                      go_wp2
                      go_meet
                      exact ⟨rfl, rfl⟩
                  · by_cases hjK : j = K
                    · subst hjK
                      go_wp2
                      go_meet
                      exact ⟨rfl, rfl⟩
                    · have hjb2 : ¬ (j : Int) = (K : Int) := by omega
                      have hjb : ((j : Int) == (K : Int)) = false := by simp [hjb2]
                      go_wp2
                      go_meet
                      exact ⟨rfl, rfl⟩
                · have HR0 := hr0
                  rcases HRr.out with hr1 | rfl
                  · exact absurd hr1 HR0
                  clear hr0 HR0 HM4
                  rcases hst with rfl | rfl
                  all_goals (
                    go_wp2
                    all_goals (
                      go_meet
                      exact ⟨rfl, rfl⟩))
              case rest =>
                obtain ⟨rfl, hwc⟩ := hcut
                subst hwc
                clear e0 e1 e2 d0 d1 d2
                go_wp2
                exact ⟨⟨j + 1, by congr 1, by omega, HZ4, HR4⟩, by simp [intOf]; omega⟩
            · obtain rfl : j = k := by omega
              go_wp2
              go_ret
              exact ⟨rfl, hZ.out.ext⟩
end Go.Proofs.Ytmjgbkepngeckaa
