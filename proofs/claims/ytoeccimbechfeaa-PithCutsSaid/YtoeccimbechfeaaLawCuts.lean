/- PithCuts: the walk. -/
import Derived.Test.YtoeccimbechfeaaLayLaw
import Derived.Test.YtoeccimbechfeaaParts
namespace Go.Proofs.Ytoeccimbechfeaa
open Go.RowKit
set_option linter.unusedVariables false
attribute [local go_sem high] run_max2 run_min2
attribute [local go_sem] i64_and65535

theorem readAll_take (ps : List Part) (k : Nat) (hk : k < ps.length) (st : List UInt8 × Bool) : readAll (ps.take (k + 1)) st = (readP ps[k].k (readAll (ps.take k) st)).2 := by
  rw [List.take_succ_eq_append_getElem hk, readAll_snoc]

set_option maxHeartbeats 800000 in
theorem cutsAll_any {w : World} (t : List UInt8) (B : Nat) (a : Option Addr) (len cap : Nat) (ps : List Part) (hB : Blk w B 36 [.slice a len cap]) (hR : Rd w 3 (.slice a len cap) len (ps.flatMap Part.cells)) (hlen : len ≤ 40) (ht : t.length ≤ 1000000000) :
    Calls Try.prog 36 #[str t, .pointer (some ⟨B, 0, none⟩)] w fun e w' => e = .returned (.int .i64 (doneR (readAll ps (t, false)))) ∧ Ext [] w w' := by
  have hl : ps.length = len := by have := hR.len.2.2.2; rw [flatMap_len _ 3 pcells_len] at this; omega
  have hBl := hB.lt
  go_enter Try.func36, Try.ntmps36
  go_wp2_with fail
  refine (read_any t w).mono ?_
  rintro e w2 ⟨rfl, h2, hx3⟩
  obtain ⟨g, hgg⟩ : ∃ g, g = w.heap.size := ⟨_, rfl⟩
  have hg : w.heap.size ≤ g := by omega
  rw [← hgg] at h2 ⊢
  clear hgg
  have hb0 := (hB.keep hx3 (by simp)).c 0
  simp only [List.getElem?_cons_zero] at hb0
  go_wp2
  go_loopw [11] (fun i wr => ∃ k : Nat, k ≤ len ∧ i = .int .i64 k ∧ IsR wr g (readAll (ps.take k) (t, false)) ∧ Ext [] w wr) (fun i _ => len - (intOf i).toNat)
  case atStart => exact ⟨0, by omega, rfl, h2, hx3⟩
  case round =>
    clear h2 hx3 hb0
    obtain ⟨k, hk, rfl, hr, hxr⟩ := hrel
    by_cases hlt : k < len
    · obtain ⟨b, off, rfl, hbw, hc⟩ := hR.view (by omega)
      have c0 := hxr.cell (p := ⟨b, off + k * 3, none⟩) (by simp) (hc (k * 3 + 0) (.int .i64 ps[k].k) (by rw [flatMap_get _ 3 pcells_len _ k 0 (by omega) (by omega)]; rfl))
      have c1 := hxr.cell (p := ⟨b, off + (k * 3 + 1), none⟩) (by simp) (hc (k * 3 + 1) (.int .i64 ps[k].n) (by rw [flatMap_get _ 3 pcells_len _ k 1 (by omega) (by omega)]; rfl))
      have c2 := hxr.cell (p := ⟨b, off + (k * 3 + 2), none⟩) (by simp) (hc (k * 3 + 2) (str ps[k].s) (by rw [flatMap_get _ 3 pcells_len _ k 2 (by omega) (by omega)]; rfl))
      have hst := readAll_take ps k (by omega) (t, false)
      have hsl := readAll_len (ps.take k) (t, false)
      obtain ⟨p, hp⟩ : ∃ p, p = ps[k] := ⟨_, rfl⟩
      obtain ⟨st, hs⟩ : ∃ st, st = readAll (ps.take k) (t, false) := ⟨_, rfl⟩
      rw [← hp] at c0 c1 c2 hst
      rw [← hs] at hst hsl hr
      have HS : Hid (readAll (ps.take (k + 1)) (t, false) = (readP p.k st).2) := hst
      clear hp hs hc hR hl hst
      obtain ⟨pk, pn, psx⟩ := p
      simp only at c0 c1 c2 hsl
      rw [← Nat.add_assoc] at c1 c2
      have hgw := hr.lt
      go_wp2_with fail
      refine (readP_any g pk pn psx st _ (hr.keep ((Ext.refl [] wr).alloc _) (by simp)) (by omega)).mono ?_
      rintro e w4 ⟨rfl, h4, hx6⟩
      have hx7 : Ext [] w w4 := (hxr.alloc _).trans hx6 (by simpa using hg)
      clear hr hxr hx6 c0 c1 c2
      go_wp2
      go_roundw
      case rel => exact ⟨k + 1, by omega, by go_num, by rw [HS.out]; exact h4, hx7⟩
      case measure => simp [intOf]; omega
    · have hkl : k = len := by omega
      subst hkl
      rw [List.take_of_length_le (by omega)] at hr
      clear hR hl
      go_wp2_with fail
      refine (rdone_any g _ _ hr).mono ?_
      rintro e w4 ⟨rfl, rfl⟩
      go_wp2
      go_ret
      exact ⟨rfl, hxr⟩

theorem layAll_pos (ps : List Part) (h : 0 < ps.length) : 0 < (layAll ps).length := by
  match ps, h with
  | p :: ps, _ => rw [layAll_cons, List.length_append]; have := layP_pos p; omega

set_option maxHeartbeats 1600000 in
theorem cuts_any {w0 : World} (a : Option Addr) (len cap : Nat) (ps : List Part) (hR : Rd w0 3 (.slice a len cap) len (ps.flatMap Part.cells)) (_ : ∀ p ∈ ps, WfPart p)
    (cut : Int) (_ : -9223372036854775808 ≤ cut ∧ cut ≤ 9223372036854775807) (more : UInt8) :
    Calls Try.prog 12 #[.slice a len cap, .int .i64 cut, .int .u8 (more.toNat : Int)] w0 fun e w' => e = .returned (.bool true) ∧ Ext [] w0 w' := by
  by_cases hlong : 20 < len ∨ len = 0
  · by_cases h20 : 20 < len
    · clear hlong
      go_enter Try.func12, Try.ntmps12
      go_wp2_with fail
      refine (head1_any _).mono ?_
      rintro e w1 ⟨rfl, hx⟩
      have hB : Blk w1 w0.heap.size 36 [.slice a len cap] := (Blk.new w0 _ #[.slice a len cap]).keep hx (by simp)
      have c0 := hB.c 0
      simp only [List.getElem?_cons_zero] at c0
      have hBl := hB.lt
      have hx1 : Ext [] w0 w1 := ((Ext.refl [] w0).alloc _).then0 hx
      go_wp2
      go_ret
      exact ⟨rfl, hx1⟩
    · obtain rfl : len = 0 := by omega
      clear hlong h20
      go_enter Try.func12, Try.ntmps12
      go_wp2_with fail
      refine (head1_any _).mono ?_
      rintro e w1 ⟨rfl, hx⟩
      have hB : Blk w1 w0.heap.size 36 [.slice a 0 cap] := (Blk.new w0 _ #[.slice a 0 cap]).keep hx (by simp)
      have c0 := hB.c 0
      simp only [List.getElem?_cons_zero] at c0
      have hBl := hB.lt
      have hx1 : Ext [] w0 w1 := ((Ext.refl [] w0).alloc _).then0 hx
      go_wp2
      go_ret
      exact ⟨rfl, hx1⟩
  have h20 : len ≤ 20 := by omega
  have h0 : 0 < len := by omega
  clear hlong
  have hl : ps.length = len := by have := hR.len.2.2.2; rw [flatMap_len _ 3 pcells_len] at this; omega
  go_enter Try.func12, Try.ntmps12
  go_wp2_with fail
  refine (head1_any _).mono ?_
  rintro e w1 ⟨rfl, hx⟩
  have hB : Blk w1 w0.heap.size 36 [.slice a len cap] := (Blk.new w0 _ #[.slice a len cap]).keep hx (by simp)
  have c0 := hB.c 0
  simp only [List.getElem?_cons_zero] at c0
  have hBl := hB.lt
  have hx1 : Ext [] w0 w1 := ((Ext.refl [] w0).alloc _).then0 hx
  have hg : w0.heap.size ≤ w0.heap.size := by omega
  clear hx
  go_wp2
  · go_ret
    exact ⟨rfl, hx1⟩
  clear c0
  go_loopw [23] (fun i wr => ∃ k : Nat, k ≤ len ∧ i = .int .i64 k ∧ (∀ p ∈ ps.take k, p.s.length ≤ 300) ∧ Blk wr w0.heap.size 36 [.slice a len cap] ∧ Ext [] w0 wr) (fun i _ => len - (intOf i).toNat)
  case atStart => exact ⟨0, by omega, rfl, by simp, hB, hx1⟩
  case round =>
    clear hx1 hB hBl
    obtain ⟨k, hk, rfl, hall, hBr, hxr⟩ := hrel
    by_cases hlt : k < len
    · obtain ⟨b, off, rfl, hbw, hc⟩ := hR.view (by omega)
      have c0 := hxr.cell (p := ⟨b, off + k * 3, none⟩) (by simp) (hc (k * 3 + 0) (.int .i64 ps[k].k) (by rw [flatMap_get _ 3 pcells_len _ k 0 (by omega) (by omega)]; rfl))
      have c1 := hxr.cell (p := ⟨b, off + (k * 3 + 1), none⟩) (by simp) (hc (k * 3 + 1) (.int .i64 ps[k].n) (by rw [flatMap_get _ 3 pcells_len _ k 1 (by omega) (by omega)]; rfl))
      have c2 := hxr.cell (p := ⟨b, off + (k * 3 + 2), none⟩) (by simp) (hc (k * 3 + 2) (str ps[k].s) (by rw [flatMap_get _ 3 pcells_len _ k 2 (by omega) (by omega)]; rfl))
      have hall' : ps[k].s.length ≤ 300 → Hid (∀ p ∈ ps.take (k + 1), p.s.length ≤ 300) := by
        intro h p hp
        rw [List.take_succ_eq_append_getElem (by omega), List.mem_append] at hp
        rcases hp with hp | hp
        · exact hall p hp
        · simp at hp; rw [hp]; exact h
      obtain ⟨p, hp⟩ : ∃ p, p = ps[k] := ⟨_, rfl⟩
      rw [← hp] at c0 c1 c2 hall'
      have hx2 := fun o => hxr.alloc o
      have hB2 := fun o => hBr.alloc o
      clear hp hc hR hl hall hxr hBr
      obtain ⟨pk, pn, psx⟩ := p
      simp only at c0 c1 c2 hall'
      rw [← Nat.add_assoc] at c1 c2
      by_cases h300 : 300 < psx.length
      · clear hall' hB2
        go_wp2
        go_ret
        exact ⟨rfl, hx2 _⟩
      · have hall2 := hall' (by omega)
        clear hall'
        go_wp2
        go_roundw
        case rel => exact ⟨k + 1, by omega, by go_num, hall2.out, hB2 _, hx2 _⟩
        case measure => simp [intOf]; omega
    · have hkl : k = len := by omega
      subst hkl
      rw [List.take_of_length_le (by omega)] at hall
      have c0 := hBr.c 0
      simp only [List.getElem?_cons_zero] at c0
      have hlay := layAll_le ps (fun p hp => by have := hall p hp; omega)
      have hlay0 := layAll_pos ps (by omega)
      have e1 := readAll_lay [] ps (fun p hp => by have := hall p hp; omega)
      rw [List.append_nil] at e1
      have e2 := readAll_lay [more] ps (fun p hp => by have := hall p hp; omega)
      have hm : (cut % 65536).toNat % (layAll ps).length < (layAll ps).length := Nat.mod_lt _ hlay0
      have e3 := readAll_cut ps _ (fun p hp => by have := hall p hp; omega) hm
      clear hlt
      go_wp2_with fail
      refine (lay_any a k cap ps (hR.keep hxr (by simp)) (by omega) (fun p hp => by have := hall p hp; omega)).mono ?_
      rintro e w2 ⟨rfl, hx2⟩
      have hx3 : Ext [] w0 w2 := hxr.then0 hx2
      have hB3 := hBr.keep hx2 (by simp)
      clear hx2 hxr hBr c0
      have hm3 : ((layAll ps).length : Int) ≤ 2000000 ∧ 0 < ((layAll ps).length : Int) := by omega
      obtain ⟨L, hL⟩ : ∃ L, L = layAll ps := ⟨_, rfl⟩
      rw [← hL] at e1 e2 e3 hlay hlay0 hm hm3 ⊢
      obtain ⟨c, hcc⟩ : ∃ c : Nat, cut % 65536 = (c : Int) := ⟨(cut % 65536).toNat, by omega⟩
      rw [hcc, Int.toNat_natCast] at hm e3
      have d1 : doneR ([], false) = 0 := rfl
      have d2 : doneR ([], true) = 2 := rfl
      have d3 : doneR ([more], false) = 2 := rfl
      clear hall hL hl hk
      have hex : ByteArray.extract ⟨L.toArray⟩ 0 (c % L.length) = ⟨(L.take (c % L.length)).toArray⟩ := take_extract L _ (by omega)
      have hx4l : (L.take (c % L.length)).length ≤ 1000000000 := by simp; omega
      go_wp2_with fail
      go_at_call 36
      refine (cutsAll_any L _ a k cap ps (hB3.keep (Ext.refl [] _) (by simp)) (hR.keep hx3 (by simp)) (by omega) (by omega)).mono ?_
      rintro e w3 ⟨rfl, hx4⟩
      have hx5 : Ext [] w0 w3 := hx3.then0 hx4
      have hB4 := hB3.keep hx4 (by simp)
      rw [e1, d1]
      clear hB3 hx3 hx4 e1 d1
      go_wp2_with fail
      go_at_call 36
      refine (cutsAll_any (L.take (c % L.length)) _ a k cap ps (hB4.keep (Ext.refl [] _) (by simp)) (hR.keep hx5 (by simp)) (by omega) hx4l).mono ?_
      rintro e w4 ⟨rfl, hx6⟩
      have hx7 : Ext [] w0 w4 := hx5.then0 hx6
      have hB5 := hB4.keep hx6 (by simp)
      rw [e3, d2]
      clear hB4 hx5 hx6 e3 d2
      have hs := run_str1 w4 more
      have hx8 : Ext [] w0 (w4.alloc (.cells #[.int .u8 (more.toNat : Int)] 5)) := hx7.alloc _
      have hB6 := hB5.alloc (.cells #[.int .u8 (more.toNat : Int)] 5)
      clear hx7 hB5
      go_wp2_with fail
      rw [show Value.string ((⟨L.toArray⟩ : ByteArray) ++ ⟨#[more]⟩) = str (L ++ [more]) from str_app L [more]]
      refine (cutsAll_any (L ++ [more]) _ a k cap ps (hB6.keep (Ext.refl [] _) (by simp)) (hR.keep hx8 (by simp)) (by omega) (by simp; omega)).mono ?_
      rintro e w5 ⟨rfl, hx9⟩
      have hx10 : Ext [] w0 w5 := hx8.then0 hx9
      rw [e2, d3]
      clear hB6 hx8 hx9 e2 d3 hs
      go_wp2
      go_ret
      exact ⟨rfl, hx10⟩
end Go.Proofs.Ytoeccimbechfeaa
