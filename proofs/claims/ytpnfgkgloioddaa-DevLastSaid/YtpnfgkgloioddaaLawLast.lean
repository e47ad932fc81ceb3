/- DevLast: the walk. -/
import Derived.Test.YtpnfgkgloioddaaDevN
import Derived.Deep.DeepCutAuto
namespace Go.Proofs.Ytpnfgkgloioddaa
open Go.RowKit
set_option linter.unusedVariables false

/-- A device of one block to which these were written. -/
def dl (ts : List (List UInt8)) : Dv := { newD 1 with since := ts.map fun s => (0, s) }
theorem dl_nil : newD 1 = dl [] := rfl
theorem dl_write (ts : List (List UInt8)) (s : List UInt8) (h : s.length ≤ 512) : writeE 0 s (dl ts) = 0 ∧ writeD 0 s (dl ts) = dl (ts ++ [s]) := by
  have h1 : writeE 0 s (dl ts) = 0 := by
    have h0 : turnE (dl ts) = 0 := rfl
    rw [writeE, h0, if_neg (by decide), if_neg (by show ¬ ((0 : Int) < 0 ∨ (1 : Int) ≤ 0); omega), if_neg (by omega)]
  refine ⟨h1, ?_⟩
  rw [writeD, if_pos h1]
  show Dv.mk _ _ _ _ _ _ _ = Dv.mk _ _ _ _ _ _ _
  congr 1
  · simp [turnD, dl, newD]
  · funext x
    show setF _ 0 false x = false
    unfold setF turnD dl newD
    simp
theorem dl_read (ts : List (List UInt8)) (s : List UInt8) : readE 0 (dl (ts ++ [s])) = 0 ∧ readV 0 (dl (ts ++ [s])) = s := by
  have h1 : readE 0 (dl (ts ++ [s])) = 0 := rfl
  refine ⟨h1, ?_⟩
  rw [readV, if_pos h1, contD]
  simp [dl, lastW_snoc]
def wantL (fs : List Int) (ts : List (List UInt8)) : List UInt8 := (crashD fs (dl ts)).safe 0
theorem wantL_snoc (fs : List Int) (ts : List (List UInt8)) (s : List UInt8) : wantL fs (ts ++ [s]) = if fs.getD ts.length 0 = 1 then s else if fs.getD ts.length 0 = 2 then s.take (s.length / 2) else wantL fs ts := by
  have e : crashD fs (dl (ts ++ [s])) = fateD (fs.getD ts.length 0) (0, s) (crashD fs (dl ts)) := by
    show fatesD fs 0 ((ts ++ [s]).map fun s => ((0 : Int), s)) _ = _
    rw [List.map_append, List.map_cons, List.map_nil, fatesD_snoc, List.length_map, Nat.zero_add]; rfl
  unfold wantL
  rw [e, fateD]
  by_cases h1 : fs.getD ts.length 0 = 1
  · rw [if_pos h1, if_pos h1]; exact setF_same (crashD fs (dl ts)).safe 0 s
  · rw [if_neg h1, if_neg h1]
    by_cases h2 : fs.getD ts.length 0 = 2
    · rw [if_pos h2, if_pos h2]; exact setF_same (crashD fs (dl ts)).safe 0 (s.take (s.length / 2))
    · rw [if_neg h2, if_neg h2]
theorem crash_read (fs : List Int) (ts : List (List UInt8)) : readE 0 (crashD fs (dl ts)) = 0 ∧ readV 0 (crashD fs (dl ts)) = wantL fs ts := by
  obtain ⟨h1, h2, h3, h4, h5⟩ := crashD_size fs (dl ts)
  have he : readE 0 (crashD fs (dl ts)) = 0 := by
    rw [readE, h5, if_neg (by decide), h1, if_neg (by show ¬ ((0 : Int) < 0 ∨ min (max 1 0) 4096 ≤ (0 : Int)); omega), h3]; rfl
  refine ⟨he, ?_⟩
  rw [readV, if_pos he, contD, h2]; rfl

set_option maxRecDepth 100000 in
set_option maxHeartbeats 3200000 in
theorem last_any {w : World} (a : Option Addr) (len cap : Nat) (ts : List (List UInt8)) (hR : Rd w 1 (.slice a len cap) len (ts.map str)) (hts : ∀ t ∈ ts, t.length ≤ maxLen)
    (a2 : Option Addr) (len2 cap2 : Nat) (fs : List Int) (hR2 : Rd w 1 (.slice a2 len2 cap2) len2 (fs.map (Value.int .i64))) (hfs : ∀ f ∈ fs, (Lit.int .i64 f).wf = true) :
    Calls Try.prog 3 #[.slice a len cap, .slice a2 len2 cap2] w fun e w' => e = .returned (.bool true) ∧ Ext [] w w' := by
  have hl : ts.length = len := by have := hR.len; simp at this; omega
  have hl2 : fs.length = len2 := by have := hR2.len; simp at this; omega
  by_cases hgo : 30 < len ∨ 60 < len2
  · by_cases h30 : 30 < len
    · clear hgo
      go_enter Try.func3, Try.ntmps3
      go_wp2_with fail
      refine (head3_any w).mono ?_
      rintro e w1 ⟨rfl, hx⟩
      go_wp2
      go_ret
      exact ⟨rfl, hx⟩
    · have h60 : 60 < len2 := by omega
      clear hgo
      go_enter Try.func3, Try.ntmps3
      go_wp2_with fail
      refine (head3_any w).mono ?_
      rintro e w1 ⟨rfl, hx⟩
      go_wp2
      go_ret
      exact ⟨rfl, hx⟩
  · have h30 : len ≤ 30 := by omega
    have h60 : len2 ≤ 60 := by omega
    clear hgo
    go_enter Try.func3, Try.ntmps3
    go_wp2_with fail
    refine (head3_any w).mono ?_
    rintro e w1 ⟨rfl, hx⟩
    go_wp2_with fail
    refine (new_n 1 w w1 hx).mono ?_
    rintro e w2 ⟨b, rfl, hd, hx2⟩
    rw [dl_nil] at hd
    clear hx hx2
    go_wp2
    go_loopw [6, 26] (fun v i wr => ∃ k : Nat, k ≤ len ∧ i = .int .i64 k ∧ v = str (wantL fs (ts.take k)) ∧ DevN w wr b (dl (ts.take k))) (fun _ i _ => len - (intOf i).toNat)
    case atStart => exact ⟨0, by omega, rfl, rfl, hd⟩
    case round =>
      clear hd
      obtain ⟨k, hk, rfl, rfl, hd⟩ := hrel
      have hdx := hd.ext
      by_cases hlt : k < len
      · obtain ⟨g, off, rfl, hgw, hc⟩ := hR.view (by omega)
        have c0 := hdx.cell (p := ⟨g, off + k, none⟩) (by simp) (hc k (str ts[k]) (by rw [List.getElem?_map, List.getElem?_eq_getElem (by omega)]; rfl))
        have htl := hts ts[k] (List.getElem_mem _)
        have htk : ts.take (k + 1) = ts.take k ++ [ts[k]] := List.take_succ_eq_append_getElem (by omega)
        have hws := wantL_snoc fs (ts.take k) ts[k]
        have hwr := dl_write (ts.take k) ts[k]
        have hrd := dl_read (ts.take k) ts[k]
        have hcl := (show (dl (ts.take k)).since.length ≤ 1000000 by show ((ts.take k).map fun s => ((0 : Int), s)).length ≤ _; rw [List.length_map, List.length_take]; omega)
        rw [← htk] at hws hrd
        rw [← htk] at hwr
        rw [List.length_take, Nat.min_eq_left (by omega)] at hws
        obtain ⟨s, hs⟩ : ∃ s, s = ts[k] := ⟨_, rfl⟩
        rw [← hs] at c0 htl hws hwr hrd
        obtain ⟨D, hD⟩ : ∃ D, D = dl (ts.take k) := ⟨_, rfl⟩
        rw [← hD] at hd hwr hcl
        obtain ⟨D', hD'⟩ : ∃ D, D = dl (ts.take (k + 1)) := ⟨_, rfl⟩
        rw [← hD'] at hwr hrd
        obtain ⟨v, hv⟩ : ∃ v, v = wantL fs (ts.take k) := ⟨_, rfl⟩
        rw [← hv] at hws ⊢
        have HD' : Hid (D' = dl (ts.take (k + 1))) := hD'
        have htl2 : s.length ≤ 9223372036854775807 := by unfold maxLen at htl; omega
        clear hs hD hD' hv hc hR hts htk
        by_cases hbig : 512 < s.length
        · clear hws hwr hrd hfs
          go_wp2
          go_ret
          exact ⟨rfl, hdx⟩
        · obtain ⟨hw1, hw2⟩ := hwr (by omega)
          have cw := write_n b D 0 s w wr hd hcl
          rw [hw1, hw2] at cw
          have cr := fun W (h : DevN w W b D') => dread_n b D' 0 w W h
          rw [hrd.1, hrd.2] at cr
          have hn3 : ¬ 512 < s.length := hbig
          clear hwr hrd hw1 hw2 hd hcl hbig
          have u0 : (0 : Int) ≤ (s.length : Int) / 2 := by omega
          have hex2 : ByteArray.extract ⟨s.toArray⟩ 0 (((s.length : Int) / 2).toNat) = ⟨(s.take (s.length / 2)).toArray⟩ := by
            rw [show ((s.length : Int) / 2).toNat = s.length / 2 by omega]; exact take_extract s _ (by omega)
          have hex : ByteArray.extract ⟨s.toArray⟩ 0 (s.length / 2) = ⟨(s.take (s.length / 2)).toArray⟩ := take_extract s _ (by omega)
          go_wp2_with fail
          refine cw.mono ?_
          rintro e w3 ⟨rfl, hd3⟩
          have hdx3 := hd3.ext
          clear cw c0 hdx
          by_cases hkf : k < len2
          · obtain ⟨g3, off3, rfl, hg3w, hc3⟩ := hR2.view (by omega)
            have cf := hdx3.cell (p := ⟨g3, off3 + k, none⟩) (by simp) (hc3 k (.int .i64 (fs.getD k 0)) (by rw [List.getElem?_map, List.getElem?_eq_getElem (by omega)]; simp [List.getD, show k < fs.length by omega]))
            obtain ⟨f, hff⟩ : ∃ f, f = fs.getD k 0 := ⟨_, rfl⟩
            rw [← hff] at cf hws
            have hg3r : g3 < w3.heap.size := by have := hdx3.size; omega
            clear hff hc3 hR2
            by_cases hf1 : f = 1
            · rw [if_pos hf1] at hws
              have HW : Hid (wantL fs (ts.take (k + 1)) = s) := hws
              rw [hf1] at cf
              clear hws hf1
              go_wp2_with fail
              refine (cr _ hd3).mono ?_
              rintro e w4 ⟨rfl, hd4, hx4⟩
              clear hd3 cf cr
              go_wp2
              go_roundw
              case rel => exact ⟨k + 1, by omega, by go_num, by rw [HW.out], by rw [← HD'.out]; exact hd4⟩
              case measure => simp [intOf]; omega
            · rw [if_neg hf1] at hws
              have e1 : (f == 1) = false := by simp [hf1]
              by_cases hf2 : f = 2
              · rw [if_pos hf2] at hws
                have HW : Hid (wantL fs (ts.take (k + 1)) = s.take (s.length / 2)) := hws
                rw [hf2] at cf
                clear hws hf2 hf1 e1
                go_wp2_with fail
                refine (cr _ hd3).mono ?_
                rintro e w4 ⟨rfl, hd4, hx4⟩
                clear hd3 cf cr
                go_wp2
                go_roundw
                case rel => exact ⟨k + 1, by omega, by go_num, by rw [HW.out], by rw [← HD'.out]; exact hd4⟩
                case measure => simp [intOf]; omega
              · rw [if_neg hf2] at hws
                have HW : Hid (wantL fs (ts.take (k + 1)) = v) := hws
                have e2 : (f == 2) = false := by simp [hf2]
                clear hws hf2 hf1
                go_wp2_with fail
                refine (cr _ hd3).mono ?_
                rintro e w4 ⟨rfl, hd4, hx4⟩
                clear hd3 cf cr
                go_wp2
                go_roundw
                case rel => exact ⟨k + 1, by omega, by go_num, by rw [HW.out], by rw [← HD'.out]; exact hd4⟩
                case measure => simp [intOf]; omega
          · have hg0 : fs.getD k 0 = 0 := by rw [List.getD, List.getElem?_eq_none (by omega)]; rfl
            rw [hg0] at hws
            have HW : Hid (wantL fs (ts.take (k + 1)) = v) := hws
            have hkf2 : len2 ≤ k := by omega
            clear hws hg0 hkf
            go_wp2_with fail
            refine (cr _ hd3).mono ?_
            rintro e w4 ⟨rfl, hd4, hx4⟩
            clear hd3 cr
            go_wp2
            go_roundw
            case rel => exact ⟨k + 1, by omega, by go_num, by rw [HW.out], by rw [← HD'.out]; exact hd4⟩
            case measure => simp [intOf]; omega
      · have hkl : k = len := by omega
        subst hkl
        rw [List.take_of_length_le (by omega)] at hd ⊢
        obtain ⟨h1, h2⟩ := crash_read fs ts
        have cr := fun b2 W (h : DevN w W b2 (crashD fs (dl ts))) => dread_n b2 _ 0 w W h
        rw [h1, h2] at cr
        clear h1 h2 hts hfs
        go_wp2_with fail
        refine (crash_n b (dl ts) _ _ _ fs w _ hd (hR2.keep hdx (by simp))).mono ?_
        rintro e w5 ⟨b2, rfl, hd5, hx5⟩
        go_wp2_with fail
        refine (cr b2 w5 hd5).mono ?_
        rintro e w6 ⟨rfl, hd6, hx6⟩
        have hx7 := hd6.ext
        clear cr hd hd5 hd6 hx5 hx6
        go_wp2
        go_ret
        exact ⟨rfl, hx7⟩
end Go.Proofs.Ytpnfgkgloioddaa
