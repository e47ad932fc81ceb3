/- ChunkBlocks holds: for every input the call returns true, and the arguments read as they did. No condition. -/
import Derived.Test.YtlnfigbcdmfmdaaChkq
import Derived.Test.YtlnfigbcdmfmdaaChkt
import Derived.Test.YtlnfigbcdmfmdaaArgs
namespace Go.Proofs.Ytlnfigbcdmfmdaa
open Go.RowKit
set_option linter.unusedVariables false
set_option linter.unusedSimpArgs false
attribute [local go_sem] i64_and65535 i64_and255

/-- Open refuses a place. -/
theorem open7_bad {w0 w : World} {b : Nat} {D : Dv} {n : Int} {V : Int → Sl} {O : List Nat} (h : DevO w0 w b D O) (hf : Fine D n V 0) (base : Int) (hb : base < 0 ∨ n < base + 132) (hr : -100 ≤ base ∧ base ≤ 10000) (hn0 : 0 ≤ n) :
    Calls Try.prog 13 #[.pointer (some ⟨b, 0, none⟩), .int .i64 base] w fun e w' => e = .returned (.tuple #[.pointer none, .int .i64 1]) ∧ Ext [] w w' := by
  have hbig := hf.big
  have cz := fun w' (hx : Ext [] w w') => size_n b D w0 w' (h.keep hx).n
  rw [hf.size] at cz
  by_cases h0 : base < 0
  · have hg1 : decide (base < 0) = true := decide_eq_true h0
    clear h hf cz
    go_enter Try.func13, Try.ntmps13
    go_wp2
    go_ret2
    exact ⟨rfl, Ext.refl _ _⟩
  · have hg1 : decide (base < 0) = false := decide_eq_false h0
    have hg2 : decide (n - 132 < base) = true := decide_eq_true (by omega)
    clear h hf
    go_enter Try.func13, Try.ntmps13
    go_wp2_with (first
      | (go_at_call 35; (with_reducible refine (cz _ (Ext.refl _ _)).mono ?_); rintro e w1 ⟨rfl, rfl⟩))
    go_ret2
    exact ⟨rfl, Ext.refl _ _⟩

section
variable {n : Int} {D : Dv} {base : Int} {V V' : Int → Sl} {s : Sto} {x : Shot} {i t : Int} {d : List UInt8}
theorem putsV_copies (s : Sto) (a : Int) (l : List (Int × Rc)) (m : Ls) (V : Int → Sl) :
    putsV [l, [copR s a m 0], [copR s a m 1]].flatten V (s.b a 0) = (1, recL m) ∧ putsV [l, [copR s a m 0], [copR s a m 1]].flatten V (s.b a 1) = (1, recL m) := by
  have e : [l, [copR s a m 0], [copR s a m 1]].flatten = (l ++ [copR s a m 0]) ++ [copR s a m 1] := by simp
  rw [e, putsV_snoc, putsV_snoc]
  have n01 : s.b a 0 ≠ s.b a 1 := by unfold Sto.b; omega
  exact ⟨(setF_other _ _ _ _ n01).trans (setF_same _ _ _), setF_same _ _ _⟩
/-- Put, with power: the copies too. -/
theorem Good.putB (h : Good base V s x) (hf : Fine0 D n V) (hb : 0 ≤ base) (hn : base + 132 ≤ n) (hi : x.i < i) (hr : (ofL i t d).right) :
    ∃ D' V', putX s i t d D = (0, D', putS s (ofL i t d)) ∧ Fine0 D' n V' ∧ Good base V' (putS s (ofL i t d)) ⟨i, t, d⟩ ∧ V' (s.b (putA s) 0) = (1, recL (ofL i t d)) ∧ V' (s.b (putA s) 1) = (1, recL (ofL i t d)) := by
  have hl := put_lists h hb hn hr
  obtain ⟨e1, e2⟩ := hf.fine.runs _ hl
  have h0 : 0 ≤ n := by omega
  refine ⟨(putR s i t d D).2, _, ?_, ⟨e2, ?_⟩, h.put hi hr, (putsV_copies s (putA s) (chW s (putA s) i d) (ofL i t d) V).1, (putsV_copies s (putA s) (chW s (putA s) i d) (ofL i t d) V).2⟩
  · unfold putX
    rw [if_pos (h.ok hi hr)]
    have e : (putR s i t d D).1 = 0 := e1
    rw [e, if_pos rfl]
  · rcases runs_crash _ hf.calm0 h0 hl [] with ⟨_, hc⟩ | ⟨hc, _⟩
    · exact hc.lost
    · rw [e1] at hc; exact absurd hc (by decide)
end
set_option maxRecDepth 100000 in
set_option maxHeartbeats 25600000 in
theorem blocks7_any (nn : Int) (hn : -9223372036854775808 ≤ nn ∧ nn ≤ 9223372036854775807) (sd : Int) (hsd : -9223372036854775808 ≤ sd ∧ sd ≤ 9223372036854775807) (ix : Int) (hix : -9223372036854775808 ≤ ix ∧ ix ≤ 9223372036854775807) (tm : Int) (htm : -9223372036854775808 ≤ tm ∧ tm ≤ 9223372036854775807) (w0 : World) :
    Calls Try.prog 7 #[.int .i64 nn, .int .i64 sd, .int .i64 ix, .int .i64 tm] w0 fun e w' => e = .returned (.bool true) ∧ Ext [] w0 w' := by
  go_enter Try.func7, Try.ntmps7
  go_wp2_with fail
  refine (head7_any w0).mono ?_
  rintro e w1 ⟨rfl, hx1⟩
  go_wp2_with fail
  refine (text7_any (nn % 65536) sd w1 (by omega)).mono ?_
  rintro e w2 ⟨tx, rfl, htl, hx2⟩
  have hIb : 0 ≤ ix % 65536 ∧ ix % 65536 < 65536 := by omega
  have hTb : 0 ≤ tm % 256 ∧ tm % 256 < 256 := by omega
  have htl2 : (tx.length : Int) = nn % 65536 := by omega
  have hN : 0 ≤ nn % 65536 ∧ nn % 65536 < 65536 := by omega
  generalize ix % 65536 = I at hIb ⊢
  generalize tm % 256 = T at hTb ⊢
  generalize nn % 65536 = N at htl htl2 hN ⊢
  have hL0 : tx.length < 65536 := by omega
  have HX2 := Hid.of (hx1.then0 hx2)
  have HTL := Hid.of htl2
  clear hx1 hx2 htl htl2
  go_wp2_with fail
  refine (new_n 140 w0 w2 HX2.out).mono ?_
  rintro e w3 ⟨b, rfl, hd, hx3⟩
  have hf := Fine0.new 140 (by omega) (by omega)
  have HF := Hid.of hf
  have HD := Hid.of hd.o
  clear hd hf hx3 HX2
  go_wp2_with fail
  refine (open7_o HD.out HF.out.fine 4 (by omega) (by omega)).mono ?_
  rintro e w4 ⟨q, sv, rfl, hs, hx4, hq⟩
  have hg := Good.new 4
  rw [hg.open] at hs
  have HS4 := Hid.of hs
  have HG4 := Hid.of hg
  clear hs hg hx4 hq HD
  by_cases hb : I < 1 ∨ T < 1 ∨ 25600 < N
  · have hnp : ¬ putOk ⟨4, -1, Ls.zero⟩ (ofL I T tx) := fun h => by
      have h2 := (ofL_right I T tx).1 h.1
      have := HTL.out
      omega
    go_wp2_with fail
    refine (put_bad HS4.out I T tx (by omega) hnp).mono ?_
    rintro e w5 ⟨rfl, hx5⟩
    have HX5 := Hid.of hx5
    have c1 := holds7 (HS4.out.keep HX5.out) HF.out.fine HG4.out (by simp)
    clear hx5 hnp
    have key : ∀ p1 p2 p3 : Bool, decide (I < 1) = p1 → decide (T < 1) = p2 → decide (25600 < N) = p3 → (p1 || p2 || p3) = true := by
      intro p1 p2 p3 h1 h2 h3
      subst h1 h2 h3
      simp
      omega
    cases h1 : decide (I < 1) with
    | true =>
      clear key hb
      go_wp2_with fail
      refine c1.mono ?_
      rintro e w6 ⟨rfl, hx6⟩
      have HXe := Hid.of ((HS4.out.keep HX5.out).dev.ext.then0 hx6)
      clear c1 hx6
      go_wp2
      go_ret
      exact ⟨rfl, HXe.out⟩
    | false =>
      cases h2 : decide (T < 1) with
      | true =>
        clear key hb
        go_wp2_with fail
        refine c1.mono ?_
        rintro e w6 ⟨rfl, hx6⟩
        have HXe := Hid.of ((HS4.out.keep HX5.out).dev.ext.then0 hx6)
        clear c1 hx6
        go_wp2
        go_ret
        exact ⟨rfl, HXe.out⟩
      | false =>
        have h3 : decide (25600 < N) = true := by
          have := key _ _ _ h1 h2 rfl
          simpa using this
        clear key hb
        go_wp2_with fail
        refine c1.mono ?_
        rintro e w6 ⟨rfl, hx6⟩
        have HXe := Hid.of ((HS4.out.keep HX5.out).dev.ext.then0 hx6)
        clear c1 hx6
        go_wp2
        go_ret
        exact ⟨rfl, HXe.out⟩
  · have hb1 : 1 ≤ I ∧ 1 ≤ T ∧ N ≤ 25600 := by omega
    have g1 : decide (I < 1) = false := decide_eq_false (by omega)
    have g2 : decide (T < 1) = false := decide_eq_false (by omega)
    have g3 : decide (25600 < N) = false := decide_eq_false (by omega)
    have hr : (ofL I T tx).right := text_right (by omega) (by omega) (by have := HTL.out; omega)
    obtain ⟨D', V', hX, hf', hg', hv0, hv1⟩ := HG4.out.putB HF.out (by omega) (by omega) (show (0 : Int) < I by omega) hr
    have cp := HS4.out.put7 I T tx (by omega) (by simp [newD])
    rw [hX] at cp
    unfold PutTo at cp
    simp only at cp
    have hhas := (hg'.som (show I ≠ 0 by omega)).1
    have hbs := hg'.bas
    have har : (putS ⟨4, -1, Ls.zero⟩ (ofL I T tx)).area = 0 := rfl
    have hv0' : V' 4 = (1, recL (ofL I T tx)) := hv0
    have hv1' : V' 5 = (1, recL (ofL I T tx)) := hv1
    generalize putS ⟨4, -1, Ls.zero⟩ (ofL I T tx) = s at cp hhas hbs har
    have hwh : ∀ (k : Nat) (hk : k < (cutL tx).length), V' (6 + (k : Int)) = (1, chunkRec I k (cutL tx)[k]) := fun k hk => by
      have := hhas.whole k hk
      have e : s.b s.area (2 + (k : Int)) = 6 + (k : Int) := by unfold Sto.b; rw [hbs, har]; omega
      rwa [e] at this
    have HHas := Hid.of hhas
    have HF' := Hid.of hf'
    have HWh := Hid.of hwh
    have HV0 := Hid.of hv0'
    have HV1 := Hid.of hv1'
    have HR := Hid.of hr
    have hnp : ¬ putOk s (ofL I T tx) := fun h => by
      have h2 := h.2
      rw [hhas.list, har] at h2
      exact h2 ⟨by omega, Int.le_refl _⟩
    have HNp := Hid.of hnp
    clear hX hf' hg' hhas hbs har hv0 hv1 hv0' hv1' hwh hnp hr HF HG4 hb
    go_wp2_with fail
    refine cp.mono ?_
    rintro e w5 ⟨sv', rfl, hs5, hk5⟩
    have HS5 := Hid.of hs5
    clear cp hs5 hk5 HS4
    go_wp2_with fail
    refine (cut_any tx w5 (by omega)).mono ?_
    rintro e w6 ⟨ss, rfl, ho6, hx6, hv6⟩
    obtain ⟨ps, hps⟩ : ∃ ps, ps = cutL tx := ⟨_, rfl⟩
    rw [← hps] at ho6
    obtain ⟨nk, hnk⟩ : ∃ m, m = ps.length := ⟨_, rfl⟩
    rw [← hnk] at ho6
    obtain ⟨za, zc, rfl⟩ := Rd.isSlice ho6.rd
    have hnk1 : (nk : Int) ≤ 64 := by rw [hnk, hps, cutL_length]; have := HTL.out; omega
    have HZ6 : Hid (Rd w6 1 (.slice za nk zc) nk (ps.map str)) := Hid.of ho6.rd
    have HS6 := Hid.of (HS5.out.keep hx6)
    have HPs := Hid.of hps
    have HNk := Hid.of hnk
    clear ho6 hx6 hv6 hps hnk HS5
    go_wp2_with fail
    refine (num_any (.slice none 0 0) [] _ 1 1 [N] _ (by omega) (by simp) (OwnB.nil _) (Rd.lit w6 #[.int .i64 N] 3 1 1 rfl (by unfold maxLen; omega)) (by simp [vblocks])).mono ?_
    rintro e w7 ⟨v7, rfl, ho7, hx7, hv7⟩
    have hx7' : Ext [] w6 w7 := ((Ext.refl _ _).alloc _).then0 hx7
    have hv7' : ∀ z ∈ vblocks v7, w6.heap.size ≤ z := fun z hz => by
      rcases hv7 z hz with h | h
      · simp [vblocks] at h
      · simp at h; omega
    rw [List.nil_append] at ho7
    have HO7 := Hid.of ho7
    have HX7 := Hid.of hx7'
    have HV7 := Hid.of hv7'
    clear ho7 hx7 hx7' hv7 hv7'
    have hn1 : (encNums [N]).length = 6 := by rw [encNums_length]; rfl
    go_wp2_with fail
    refine (num_any v7 (encNums [N]) _ 1 1 [(nk : Int)] _ (by omega) (by omega) (OwnB.keep HO7.out ((Ext.refl [] w7).alloc _) (by simp)) (Rd.lit w7 #[.int .i64 (nk : Int)] 3 1 1 rfl (by unfold maxLen; omega)) (by simp [vblocks]; intro hm; have := HO7.out.lt _ hm; omega)).mono ?_
    rintro e w8 ⟨v8, rfl, ho8, hx8, hv8⟩
    have hx8' : Ext [] w6 w8 := HX7.out.trans (((Ext.refl (vblocks v7) w7).alloc _).trans hx8 (fun z hz => .inl hz)) (fun z hz => .inr (HV7.out z hz))
    have hv8' : ∀ z ∈ vblocks v8, w6.heap.size ≤ z := fun z hz => by
      rcases hv8 z hz with h | h
      · exact HV7.out z h
      · have := HX7.out.size; simp at h; omega
    obtain ⟨B, hB⟩ : ∃ B, B = encNums [N] ++ encNums [(nk : Int)] := ⟨_, rfl⟩
    rw [← hB] at ho8
    have hBl : B.length = 12 := by rw [hB, List.length_append, hn1, encNums_length]; rfl
    have HRec : Hid (recL (ofL I T tx) = ⟨4, I, T, B ++ encNums (ps.map fun c => u32v (sumOf c))⟩) := Hid.of (by
      have e1 : encNums [N] ++ encNums [(nk : Int)] = encNums [N, (nk : Int)] := by rw [← encNums_append]; rfl
      rw [hB, e1, HPs.out, HNk.out, HPs.out]
      simp [recL, ofL, HTL.out, Function.comp_def])
    have HO8 := Hid.of ho8
    have HX8 := Hid.of hx8'
    have HV8 := Hid.of hv8'
    clear hB hn1 ho8 hx8 hx8' hv8 hv8' HO7 HX7 HV7
    go_wp2_with fail
    go_loopw [15, 88] (fun u15 u88 wr => ∃ k : Nat, u88 = .int .i64 (k : Int) ∧ k ≤ nk ∧ Hid (OwnB wr u15 (B ++ encNums ((ps.take k).map fun c => u32v (sumOf c)))) ∧ Hid (∀ z ∈ vblocks u15, w6.heap.size ≤ z) ∧ Hid (Ext [] w6 wr)) (fun _ u88 _ => nk - (intOf u88).toNat)
    case atStart => exact ⟨0, rfl, by omega, Hid.of (by simpa [encNums] using HO8.out), HV8, HX8⟩
    case round =>
      clear HO8 HV8 HX8
      obtain ⟨k, rfl, hk, hO, hV, hX⟩ := hrel
      by_cases hlt : k < nk
      · have hip : k < ps.length := by have := HNk.out; omega
        obtain ⟨y, hy⟩ : ∃ y, ps[k]? = some y := ⟨_, List.getElem?_eq_getElem hip⟩
        obtain ⟨g, off, rfl, hgw, hc⟩ := Rd.view (HZ6.out.keep hX.out (by simp)) (by omega)
        have c0 : wr.cell? ⟨g, off + k, none⟩ = some (str y) := hc k _ (by rw [List.getElem?_map, hy]; rfl)
        have hic : k < (cutL tx).length := by have := HNk.out; have h2 := HPs.out; subst h2; omega
        have hyc : (cutL tx)[k] = y := by have h2 := HPs.out; subst h2; exact (List.getElem?_eq_some_iff.1 hy).2
        have hyl : y.length ≤ 400 := by rw [← hyc]; exact (cutL_piece tx k hic).2.2.1
        have hw6 := HWh.out k hic
        rw [hyc] at hw6
        have HTk : Hid (encNums ((ps.take (k + 1)).map fun c => u32v (sumOf c)) = encNums ((ps.take k).map fun c => u32v (sumOf c)) ++ encNums [u32v (sumOf y)]) := Hid.of (by
          rw [List.take_succ_eq_append_getElem hip, List.map_append, encNums_append]
          have e : ps[k] = y := (List.getElem?_eq_some_iff.1 hy).2
          rw [e]; rfl)
        have hlb : (B ++ encNums ((ps.take k).map fun c => u32v (sumOf c))).length ≤ 1000 := by rw [List.length_append, encNums_length, List.length_map, List.length_take]; omega
        have co := ofStr_any y (wr.alloc (.cells #[str y] 9)) wr.heap.size (Blk.new wr 9 #[str y]) (by omega)
        have hu0 := u32v_lo (sumOf y)
        have hu1 := u32v_hi (sumOf y)
        generalize u32v (sumOf y) = cs at co hu0 hu1 HTk
        have HW6 := Hid.of hw6
        have HLb := Hid.of hlb
        clear hc hgw hy hyc hic hip hw6 hlb
        go_wp2_with fail
        refine co.mono ?_
        rintro e w9 ⟨rfl, hx9⟩
        have hx9' : Ext [] wr w9 := ((Ext.refl _ _).alloc _).then0 hx9
        have HX9 := Hid.of hx9'
        have HO9 : Hid (OwnB w9 u15 (B ++ encNums ((ps.take k).map fun c => u32v (sumOf c)))) := Hid.of (OwnB.keep hO.out hx9' (by simp))
        clear co hx9 hx9' c0
        go_wp2_with fail
        refine (num_any u15 _ _ 1 1 [cs] _ (by omega) (by have := HLb.out; omega) (OwnB.keep HO9.out ((Ext.refl [] w9).alloc _) (by simp)) (Rd.lit w9 #[.int .i64 cs] 3 1 1 rfl (by unfold maxLen; omega)) (by simp [vblocks]; intro hm; have := HO9.out.lt _ hm; omega)).mono ?_
        rintro e w10 ⟨v10, rfl, ho10, hx10, hv10⟩
        have hx10' : Ext [] w6 w10 := (hX.out.then0 HX9.out).trans (((Ext.refl (vblocks u15) w9).alloc _).trans hx10 (fun z hz => .inl hz)) (fun z hz => .inr (hV.out z hz))
        have hv10' : ∀ z ∈ vblocks v10, w6.heap.size ≤ z := fun z hz => by
          rcases hv10 z hz with h | h
          · exact hV.out z h
          · have := (hX.out.then0 HX9.out).size; simp at h; omega
        have ho10' : OwnB w10 v10 (B ++ encNums ((ps.take (k + 1)).map fun c => u32v (sumOf c))) := by rw [HTk.out, ← List.append_assoc]; exact ho10
        have HO10 := Hid.of ho10'
        have HX10 := Hid.of hx10'
        have HV10 := Hid.of hv10'
        have cr := sread_v (HS6.out.keep hx10').dev HF'.out.fine (6 + (k : Int)) (by omega) (by omega)
        rw [HW6.out] at cr
        simp only [chunkRec, Rc.val] at cr
        clear ho10 hx10 hv10 ho10' hx10' hv10' hO hV hX HX9 HO9 HTk HLb HW6
        go_wp2_with fail
        refine cr.mono ?_
        rintro e w11 ⟨rfl, hx11⟩
        have HX11 := Hid.of hx11
        clear cr hx11
        go_wp2
        go_roundw
        case rel => exact ⟨k + 1, by go_num, by omega, OwnB.keep HO10.out (HX11.out.alloc _) (by simp), HV10, (HX10.out.then0 HX11.out).alloc _⟩
        case measure => simp [intOf]; omega
      · have hkm : k = nk := by omega
        have hO2 : OwnB wr u15 (B ++ encNums (ps.map fun c => u32v (sumOf c))) := by
          have := hO.out
          rw [hkm, List.take_of_length_le (by have := HNk.out; omega)] at this
          exact this
        obtain ⟨D, hD⟩ : ∃ D, D = B ++ encNums (ps.map fun c => u32v (sumOf c)) := ⟨_, rfl⟩
        rw [← hD] at hO2
        have hrl := HRec.out
        rw [← hD] at hrl
        have HVc : Hid (∀ k : Nat, k < 2 → V' (4 + (k : Int)) = (1, ⟨4, I, T, D⟩)) := Hid.of (fun k hk => by
          rcases (by omega : k = 0 ∨ k = 1) with rfl | rfl
          · rw [← hrl]; exact HV0.out
          · rw [← hrl]; exact HV1.out)
        obtain ⟨w9, hw9⟩ : ∃ w, w = wr := ⟨_, rfl⟩
        rw [← hw9] at hO2 hX ⊢
        have HO2 := Hid.of hO2
        clear hO hV hO2 hD hrl hw9 HRec HV0 HV1 HWh hkm
        go_wp2_with fail
        go_loopw [21] (fun u21 wr => ∃ j : Nat, u21 = .int .i64 (j : Int) ∧ j ≤ 2 ∧ Hid (Ext [] w9 wr)) (fun u21 _ => 2 - (intOf u21).toNat)
        case atStart => exact ⟨0, rfl, by omega, Hid.of (Ext.refl _ _)⟩
        case round =>
          obtain ⟨j, rfl, hj, hX2⟩ := hrel
          by_cases hj2 : j < 2
          · have hj3 : decide ((j : Int) < 2) = true := decide_eq_true (by omega)
            have cr := sread_v (HS6.out.keep (hX.out.then0 hX2.out)).dev HF'.out.fine (4 + (j : Int)) (by omega) (by omega)
            rw [HVc.out j hj2] at cr
            simp only [Rc.val] at cr
            go_wp2_with fail
            refine cr.mono ?_
            rintro e w11 ⟨rfl, hx11⟩
            have HX11 := Hid.of (hX2.out.then0 hx11)
            have hst : ∀ o, (convert 60 9 u15).run Try.prog (w11.alloc o) = .ok (.string ⟨D.toArray⟩) (w11.alloc o) := fun o => (OwnB.keep HO2.out (HX11.out.alloc o) (by simp)).str
            clear cr hx11
            go_wp2
            go_roundw
            case rel => exact ⟨j + 1, by go_num, by omega, Hid.of (HX11.out.alloc _)⟩
            case measure => simp [intOf]; omega
          · have hj3 : decide ((j : Int) < 2) = false := decide_eq_false (by omega)
            obtain ⟨w10, hw10⟩ : ∃ w, w = wr := ⟨_, rfl⟩
            rw [← hw10] at hX2 ⊢
            have HS10 := Hid.of (HS6.out.keep (hX.out.then0 hX2.out))
            clear hw10 hX hX2 HO2 HVc HS6
            go_wp2_with fail
            refine (open7_bad HS10.out.dev HF'.out.fine (-1) (by omega) (by omega) (by omega)).mono ?_
            rintro e w11 ⟨rfl, hx11⟩
            have HS11 := Hid.of (HS10.out.keep hx11)
            clear hx11 HS10
            go_wp2_with fail
            refine (open7_bad HS11.out.dev HF'.out.fine 9 (by omega) (by omega) (by omega)).mono ?_
            rintro e w12 ⟨rfl, hx12⟩
            have HS12 := Hid.of (HS11.out.keep hx12)
            clear hx12 HS11
            go_wp2_with fail
            refine (list_nil7 w12).mono ?_
            rintro e w13 ⟨rfl, hx13⟩
            have HS13 := Hid.of (HS12.out.keep hx13)
            clear hx13 HS12
            unfold lsv
            simp only [Ls.zero]
            go_wp2_with fail
            refine (data_nil7 _).mono ?_
            rintro e w14 ⟨rfl, hx14⟩
            have HS14 := Hid.of ((HS13.out.keep ((Ext.refl [] w13).alloc _)).keep hx14)
            clear hx14 HS13
            go_wp2_with fail
            refine (chunk_nil 0 w14).mono ?_
            rintro e w15 ⟨rfl, hx15⟩
            have HS15 := Hid.of (HS14.out.keep hx15)
            clear hx15 HS14
            go_wp2_with fail
            refine (put_bad HS15.out I T tx (by omega) HNp.out).mono ?_
            rintro e w16 ⟨rfl, hx16⟩
            have HX16 := Hid.of (HS15.out.dev.ext.then0 hx16)
            clear hx16 HS15
            go_wp2_with fail
            refine (hurt_nil7 w16).mono ?_
            rintro e w17 ⟨v17, rfl, ho17, hx17, hv17⟩
            obtain ⟨a17, c17, rfl⟩ := Rd.isSlice ho17.rd
            have HX17 := Hid.of (HX16.out.then0 hx17)
            clear hx17 HX16 ho17 hv17
            go_wp2_with fail
            refine (put_nil 1 1 [] w17 (by simp)).mono ?_
            rintro e w18 ⟨rfl, hx18⟩
            have HX18 := Hid.of (HX17.out.then0 hx18)
            clear hx18 HX17
            go_wp2_with fail
            refine (mend_nil 0 [] w18).mono ?_
            rintro e w19 ⟨rfl, hx19⟩
            have HX19 := Hid.of (HX18.out.then0 hx19)
            clear hx19 HX18
            go_wp2_with fail
            refine (scrub_nil w19).mono ?_
            rintro e w20 ⟨rfl, hx20⟩
            have HX20 := Hid.of (HX19.out.then0 hx20)
            clear hx20 HX19
            go_wp2
            go_ret
            exact ⟨rfl, HX20.out⟩
end Go.Proofs.Ytlnfigbcdmfmdaa
namespace Go.Proofs.Ytlnfigbcdmfmdaa.chunkBlocks
open Go.ChangeShapes Go.WideShapes Go.ChangeAt Go.RowKit
open Go.ChangeMaps (open_string shut_string)
set_option linter.unusedVariables false

set_option maxRecDepth 100000 in
theorem lifted (os : Go.Os) (started : os.Started) (H : Type) (enc : TypeId × Value → H) :
    ReturnsInHanded {} Try.checked os 7 .any (Rows.chunkBlocksSpec.pre6 enc Try.prog Try.f7 Rows.chunkBlocksRow.domain false) (Rows.chunkBlocksSpec.post enc Try.prog Try.f7 false true false false) := by
  refine returnsInHanded_of_change (C := Try.checked) Try.own started (by kernel_rfl) Try.func7
    (ChangeSpec.witness6 (enc := enc) (C := Try.checked) false ⟨#[], #[.int .i64 0, .int .i64 0, .int .i64 0, .int .i64 0], []⟩ 8 (by kernel_rfl) (by kernel_rfl) (by kernel_rfl) (by kernel_rfl)) ?_
  intro W base args ds gs before hval0 hW hcnd _
  have hval : ∀ (j : Nat) t v, Try.f7.params[j]? = some t → args[j]? = some v → Value.okWide Try.prog W .any base t v := hval0
  have hW' := hW
  obtain ⟨p, q, hA0, hV, rfl, hfz, hnd⟩ := hW
  have hA : DataW.TrodAll enc Try.prog W 0 (fun _ => true) true Try.f7.params.toList args.toList ds p := hA0
  rw [Try.params7] at hA hval
  obtain ⟨v0, vs0, d0, ds0, p0, q0, hargs, rfl, rfl, h0, r0⟩ := trodAll_cons hA
  obtain ⟨v1, vs1, d1, ds1, p1, q1, rfl, rfl, rfl, h1, r1⟩ := trodAll_cons r0
  obtain ⟨v2, vs2, d2, ds2, p2, q2, rfl, rfl, rfl, h2, r2⟩ := trodAll_cons r1
  obtain ⟨v3, vs3, d3, ds3, p3, q3, rfl, rfl, rfl, h3, r3⟩ := trodAll_cons r2
  obtain ⟨rfl, rfl, rfl⟩ := trodAll_nil r3
  obtain rfl : args = #[v0, v1, v2, v3] := by cases args; simp_all
  obtain ⟨rfl, rfl⟩ := trodVars_none hV
  have k0 := h0
  have lt0 : ∀ x ∈ p0, x.block < W.heap.size := by obtain ⟨m, hm⟩ := k0; exact DataW.trod_lt m _ _ _ hm
  have k1 := h1
  have lt1 : ∀ x ∈ p1, x.block < W.heap.size := by obtain ⟨m, hm⟩ := k1; exact DataW.trod_lt m _ _ _ hm
  have k2 := h2
  have lt2 : ∀ x ∈ p2, x.block < W.heap.size := by obtain ⟨m, hm⟩ := k2; exact DataW.trod_lt m _ _ _ hm
  have k3 := h3
  have lt3 : ∀ x ∈ p3, x.block < W.heap.size := by obtain ⟨m, hm⟩ := k3; exact DataW.trod_lt m _ _ _ hm
  obtain ⟨a0, rfl, rfl, rfl, w0⟩ := open_int Try.underlying3 (hval 0 3 v0 rfl rfl) h0
  obtain ⟨a1, rfl, rfl, rfl, w1⟩ := open_int Try.underlying3 (hval 1 3 v1 rfl rfl) h1
  obtain ⟨a2, rfl, rfl, rfl, w2⟩ := open_int Try.underlying3 (hval 2 3 v2 rfl rfl) h2
  obtain ⟨a3, rfl, rfl, rfl, w3⟩ := open_int Try.underlying3 (hval 3 3 v3 rfl rfl) h3
  clear hA0 hval0
  refine (blocks7_any a0 (wf_i64 w0) a1 (wf_i64 w1) a2 (wf_i64 w2) a3 (wf_i64 w3) W).mono fun e W' ⟨he, hx⟩ => ?_
  subst he
  have bel : Below W.heap.size W W' := hx.below (by simp)
  exact ⟨_, rfl, _, _, _, [], _, [], hW', trodAll_mk1 (shut_bool Try.underlying4 _), (trodAll_cons_mk (Below.trod Try.laidOut (by kernel_rfl) (of_decide_eq_true (by kernel_rfl)) k0 bel lt0) (trodAll_cons_mk (Below.trod Try.laidOut (by kernel_rfl) (of_decide_eq_true (by kernel_rfl)) k1 bel lt1) (trodAll_cons_mk (Below.trod Try.laidOut (by kernel_rfl) (of_decide_eq_true (by kernel_rfl)) k2 bel lt2) (trodAll_cons_mk (Below.trod Try.laidOut (by kernel_rfl) (of_decide_eq_true (by kernel_rfl)) k3 bel lt3) trodAll_mk0)))), rfl, bel.frame _, fun h => by cases h⟩

theorem proved : Rows.ChunkBlocksSaid :=
  OpenClaim.holds_of_wide 7 Try.f7 rfl rfl rfl rfl rfl rfl rfl ⟨rfl, rfl, rfl, rfl, rfl⟩ rfl rfl rfl rfl rfl (by kernel_rfl) Try.func7 (by kernel_rfl)
    (of_decide_eq_true (by kernel_rfl)) (by unfold Func.isWrapper; first | (rw [if_pos (by decide +kernel)]; kernel_rfl) | (rw [if_neg (by decide +kernel)]; exact ⟨rfl, rfl⟩))
    (fun os started H enc _ => lifted os started H enc)
#print axioms proved
end Go.Proofs.Ytlnfigbcdmfmdaa.chunkBlocks
