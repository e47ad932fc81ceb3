/- SlotGets: the walk. -/
import Derived.Test.YtpnfgkgloioddaaTornLaw
import Derived.Test.YtpnfgkgloioddaaSlotg
import Derived.Test.YtpnfgkgloioddaaBits
import Derived.Deep.DeepCutAuto
namespace Go.Proofs.Ytpnfgkgloioddaa
open Go.RowKit
set_option linter.unusedVariables false
attribute [local go_sem] i64_and65535

theorem getR_wf (s : List UInt8) : (getR s).wf := by
  by_cases h : getS s = 1
  · obtain ⟨⟨a0, b0, c0, a1, b1, c1⟩, h2⟩ := putE_ok (put_get h).1
    exact ⟨by omega, by omega, by omega, by unfold maxLen; omega⟩
  · rw [getR_zero h]; exact ⟨by decide, by decide, by decide, by decide⟩
set_option maxRecDepth 100000 in
set_option maxHeartbeats 6400000 in
theorem gets_any {w : World} (s : List UInt8) (_ : s.length ≤ maxLen) (r : Rc) (hr : r.wf) (at_ : Int) (_ : -9223372036854775808 ≤ at_ ∧ at_ ≤ 9223372036854775807) (turn : UInt32) : Calls Try.prog 7 #[str s, r.val, .int .i64 at_, .int .u32 (turn.toNat : Int)] w fun e w' => e = .returned (.bool true) ∧ Ext [] w w' := by
  have pr := fun W => sput_any r W hr
  unfold PutPost at pr
  obtain ⟨T, hT⟩ : ∃ T, T = turn.toNat := ⟨_, rfl⟩
  have hT2 : T < 4294967296 := by have := turn.toNat_lt; omega
  rw [← hT]
  clear hT
  obtain ⟨_, _, _, da⟩ := hr
  obtain ⟨k1, i1, t1, d1⟩ := r
  simp only at da
  unfold Rc.val at pr ⊢
  simp only at pr ⊢
  go_enter Try.func7, Try.ntmps7
  go_wp2_with fail
  refine (head4_any _).mono ?_
  rintro e w1 ⟨rfl, hx⟩
  have ra : RcAt w1 w.heap.size ⟨k1, i1, t1, d1⟩ := (RcAt.new w k1 i1 t1 d1).keep hx
  have hxw : Ext [] w w1 := ((Ext.refl _ _).alloc _).then0 hx
  obtain ⟨q, hq⟩ : ∃ q, q = w.heap.size := ⟨_, rfl⟩
  rw [← hq] at ra ⊢
  clear hx hq
  have a3 := ra.c3
  have hlt := ra.lt
  simp only at a3
  by_cases h6 : 600 < s.length
  · clear pr
    go_wp2
    go_ret
    exact ⟨rfl, hxw⟩
  by_cases h1 : 488 < d1.length
  · clear pr
    go_wp2
    go_ret
    exact ⟨rfl, hxw⟩
  go_wp2_with fail
  clear a3
  refine (sget_any s w1 (by omega)).mono ?_
  rintro e w2 ⟨rfl, hx2⟩
  have hput := fun W => sput_any (getR s) W (getR_wf s)
  unfold PutPost at hput
  have HC : (s = [] ∧ getS s = 0 ∧ getR s = Rc.zero) ∨ (s ≠ [] ∧ getS s = 1 ∧ putE (getR s) = 0 ∧ putV (getR s) = s) ∨ (s ≠ [] ∧ getS s = 2 ∧ getR s = Rc.zero) := by
    by_cases h0 : s = []
    · subst h0; exact .inl ⟨rfl, rfl, rfl⟩
    · rcases getS_cases s with h | h | h
      · exfalso
        unfold getS at h
        rw [if_neg h0] at h
        split at h <;> cases h
      · exact .inr (.inl ⟨h0, h, put_get h⟩)
      · exact .inr (.inr ⟨h0, h, getR_zero (by omega)⟩)
  clear hlt
  rcases HC with ⟨h0, hs, hz⟩ | ⟨h0, hs, hp, hv⟩ | ⟨h0, hs, hz⟩
  · rw [hz] at hput ⊢
    rw [hs]
    obtain ⟨ev, hev⟩ : ∃ v, v = putV Rc.zero := ⟨_, rfl⟩
    obtain ⟨ee, hee⟩ : ∃ v, v = putE Rc.zero := ⟨_, rfl⟩
    rw [← hev, ← hee] at hput
    subst h0
    clear hev hee hs hz
    unfold Rc.val Rc.zero at hput
    unfold Rc.val Rc.zero
    simp only at hput ⊢
    go_wp2_with fail
    refine (hput _).mono ?_
    rintro e w3 ⟨rfl, hx3⟩
    obtain ⟨p, hp⟩ : ∃ p, p = w2.heap.size := ⟨_, rfl⟩
    have rz : RcAt w3 p ⟨0, 0, 0, []⟩ := by subst hp; exact (RcAt.new w2 0 0 0 []).keep hx3
    replace hx3 : Ext [] w1 w3 := (hx2.alloc _).then0 hx3
    rw [← hp]
    clear hput hx2 hp
    have z0 := rz.c0
    have z1 := rz.c1
    have z2 := rz.c2
    have z3 := rz.c3
    have zl := rz.lt
    simp only at z0 z1 z2 z3
    clear rz
    have a0 := (ra.keep hx3).c0
    have a1 := (ra.keep hx3).c1
    have a2 := (ra.keep hx3).c2
    have a3 := (ra.keep hx3).c3
    simp only at a0 a1 a2 a3
    have hqq : q < w3.heap.size := Nat.lt_of_lt_of_le ra.lt hx3.size
    have hxa := hxw.then0 hx3
    go_wp2_with fail
    refine (pr _).mono ?_
    rintro e w5 ⟨rfl, hx5⟩
    clear pr a0 a1 a2 a3
    have hx5 : Ext [] w w5 := hxa.then0 hx5
    clear hxa hx3 ra hqq
    by_cases hpe : putE ⟨k1, i1, t1, d1⟩ = 0
    · by_cases hT0 : T = 0
      · rw [hpe]
        generalize putV ⟨k1, i1, t1, d1⟩ = L
        subst hT0
        clear hpe
        go_wp2
        go_ret
        exact ⟨rfl, hx5⟩
      · have hbad := fun A h => four_bad hpe T A (by omega) hT2 h
        have hlen : 24 ≤ (putV ⟨k1, i1, t1, d1⟩).length ∧ (putV ⟨k1, i1, t1, d1⟩).length ≤ 512 := ⟨by rw [putV_len hpe]; omega, putV_le _⟩
        have hT0' : ((T : Int) == 0) = false := by simp; omega
        rw [hpe]
        obtain ⟨L, hL⟩ : ∃ L, L = putV ⟨k1, i1, t1, d1⟩ := ⟨_, rfl⟩
        rw [← hL] at hbad hlen ⊢
        clear hpe hL hT0
        go_wp2_with (first | ((with_reducible refine wpl_bytes (d := some 80) 5 Try.underlying9 Try.underlying43 Try.underlying5 ⟨L.toArray⟩ ?_ ?_ ?_)))
        · rfl
        · show L.length ≤ _; unfold maxLen; omega
        intro cp w6 ho hx6 hsz
        have hx7 : Ext [] w w6 := hx5.then0 hx6
        have ho' : Own w6 5 1 (.slice (some ⟨w5.heap.size, 0, none⟩) L.length cp) L.length (bcells L) := ho
        have hg : w.heap.size ≤ w5.heap.size := hx5.size
        clear ho hx5 hx6
        obtain ⟨g, hgg⟩ : ∃ g, g = w5.heap.size := ⟨_, rfl⟩
        rw [← hgg] at ho' hsz hg ⊢
        clear hgg
        obtain ⟨c, hcc⟩ : ∃ c : Nat, at_ % 65536 = (c : Int) := ⟨(at_ % 65536).toNat, by omega⟩
        have hz1 : c % (L.length / 4) < L.length / 4 := Nat.mod_lt c (by omega)
        obtain ⟨z, hz⟩ : ∃ z, c % (L.length / 4) = z := ⟨_, rfl⟩
        rw [hz] at hz1
        have hcz : (c : Int) % ((L.length : Int) / 4) = (z : Int) := by rw [← hz, Int.natCast_emod]; rfl
        have hA : 4 * z = 0 ∨ (4 ≤ 4 * z ∧ 4 * z + 4 ≤ L.length) := by omega
        have hbad2 := hbad (4 * z) hA
        have ht4 : Int.tdiv (L.length : Int) 4 = (L.length : Int) / 4 := Int.tdiv_eq_ediv_of_nonneg (by omega)
        have h4p : (0 : Int) < (L.length : Int) / 4 := by omega
        obtain ⟨N, hN⟩ : ∃ N : Int, (L.length : Int) / 4 = N := ⟨_, rfl⟩
        rw [hN] at hcz ht4 h4p
        have hml := mix_length L (4 * z) T
        have hx0 : mix L (4 * z) T 0 = L := rfl
        have hcn : 0 ≤ (c : Int) := by omega
        rw [← hx0] at ho'
        clear hbad hz hx0
        go_wp2
        go_loopw [16] (fun i wr => ∃ k : Nat, k ≤ 4 ∧ i = .int .i64 k ∧ Own wr 5 1 (.slice (some ⟨g, 0, none⟩) L.length cp) L.length (bcells (mix L (4 * z) T k)) ∧ Ext [] w wr) (fun i _ => 4 - (intOf i).toNat)
        case atStart => exact ⟨0, by omega, rfl, ho', hx7⟩
        case round =>
          clear ho' hx7 hsz
          obtain ⟨k, hk, rfl, ho, hxr⟩ := hrel
          by_cases hlt : k < 4
          · have hAk : 4 * z + k < L.length := by omega
            have hc0 := ho.cell (4 * z + k) (by omega)
            have hf0 := ho.frozen (4 * z + k) (by omega)
            have hst := ho.store (4 * z + k) (.int .u8 ((((mix L (4 * z) T k).getD (4 * z + k) 0) ^^^ tb T k).toNat : Int)) (by omega)
            rw [Nat.zero_add] at hc0 hf0 hst
            have hml2 := hml k
            rw [bcells, List.getElem?_map, List.getElem?_eq_getElem (by omega), Option.map_some] at hc0
            have hgd : (mix L (4 * z) T k).getD (4 * z + k) 0 = (mix L (4 * z) T k)[4 * z + k]'(by omega) := by simp [List.getD, show 4 * z + k < (mix L (4 * z) T k).length by omega]
            rw [← hgd] at hc0
            have hbs : (bcells (mix L (4 * z) T k)).set (4 * z + k) (.int .u8 ((((mix L (4 * z) T k).getD (4 * z + k) 0) ^^^ tb T k).toNat : Int)) = bcells (mix L (4 * z) T (k + 1)) := by
              rw [mix, bcells, bcells, List.map_set]
            rw [hbs] at hst
            obtain ⟨x, hx⟩ : ∃ x, x = (mix L (4 * z) T k).getD (4 * z + k) 0 := ⟨_, rfl⟩
            rw [← hx] at hc0 hst
            have hxt := b8_xor x (tb T k)
            have hxe := hxr.setCell (p := ⟨g, 4 * z + k, none⟩) (.inr hg) (.int .u8 ((x ^^^ tb T k).toNat : Int))
            have hk4 : k = 0 ∨ k = 1 ∨ k = 2 ∨ k = 3 := by omega
            clear hgd hbs hx ho hxr hml2 hml hbad2
            rcases hk4 with rfl | rfl | rfl | rfl
            · have ht : ((tb T 0).toNat : Int) = (T : Int) % 256 := by rw [tb, ofNat_toNat_int]; simp
              rw [ht] at hxt
              simp only [Nat.add_zero] at hc0 hf0 hst hxe
              go_wp2
              go_roundw
              case rel => exact ⟨1, by omega, by go_num, hst, hxe⟩
              case measure => simp [intOf]
            · have ht : ((tb T 1).toNat : Int) = (T : Int) / 256 % 256 := by rw [tb, ofNat_toNat_int]; simp
              rw [ht] at hxt
              go_wp2
              go_roundw
              case rel => exact ⟨2, by omega, by go_num, hst, hxe⟩
              case measure => simp [intOf]
            · have ht : ((tb T 2).toNat : Int) = (T : Int) / 65536 % 256 := by rw [tb, ofNat_toNat_int]; simp
              rw [ht] at hxt
              go_wp2
              go_roundw
              case rel => exact ⟨3, by omega, by go_num, hst, hxe⟩
              case measure => simp [intOf]
            · have ht : ((tb T 3).toNat : Int) = (T : Int) / 16777216 := by rw [tb, ofNat_toNat_int]; simp; omega
              rw [ht] at hxt
              go_wp2
              go_roundw
              case rel => exact ⟨4, by omega, by go_num, hst, hxe⟩
              case measure => simp [intOf]
          · obtain rfl : k = 4 := by omega
            have hob : Rd wr 1 (.slice (some ⟨g, 0, none⟩) L.length cp) L.length (bcells (mix L (4 * z) T 4)) := Own.rd ho
            have hs := run_string_Rd (P := Try.prog) 43 9 5 Try.underlying43 Try.underlying5 Try.underlying9 _ _ _ hob
            have hmk : (mix L (4 * z) T 4).length ≤ 512 := by rw [hml 4]; exact hlen.2
            obtain ⟨M, hM⟩ : ∃ M, M = mix L (4 * z) T 4 := ⟨_, rfl⟩
            rw [← hM] at hs hbad2 hmk
            have hop := sget_any M wr (by omega)
            unfold GetPost at hop
            rw [hbad2, getR_zero (by omega)] at hop
            unfold Rc.val Rc.zero at hop
            simp only at hop
            clear hob ho hM hml hbad2
            go_wp2_with fail
            refine hop.mono ?_
            rintro e w8 ⟨rfl, hx8⟩
            replace hxr := hxr.then0 hx8
            clear hop hs hx8
            go_wp2
            go_ret
            exact ⟨rfl, hxr.alloc _⟩
    · generalize putV ⟨k1, i1, t1, d1⟩ = L
      generalize putE ⟨k1, i1, t1, d1⟩ = y at hpe ⊢
      go_wp2
      go_ret
      exact ⟨rfl, hx5⟩
  · rw [hp, hv] at hput
    rw [hs]
    have e0 : s.isEmpty = false := by cases s; exact absurd rfl h0; rfl
    clear hp hv hs h0
    generalize getR s = X at hput ⊢
    obtain ⟨ka, ia, ta, dx⟩ := X
    unfold Rc.val at hput
    unfold Rc.val
    simp only at hput ⊢
    go_wp2_with fail
    refine (hput _).mono ?_
    rintro e w3 ⟨rfl, hx3⟩
    replace hx3 : Ext [] w1 w3 := (hx2.alloc _).then0 hx3
    clear hput hx2
    have a0 := (ra.keep hx3).c0
    have a1 := (ra.keep hx3).c1
    have a2 := (ra.keep hx3).c2
    have a3 := (ra.keep hx3).c3
    simp only at a0 a1 a2 a3
    have hqq : q < w3.heap.size := Nat.lt_of_lt_of_le ra.lt hx3.size
    have hxa := hxw.then0 hx3
    go_wp2_with fail
    refine (pr _).mono ?_
    rintro e w5 ⟨rfl, hx5⟩
    clear pr a0 a1 a2 a3
    have hx5 : Ext [] w w5 := hxa.then0 hx5
    clear hxa hx3 ra hqq
    by_cases hpe : putE ⟨k1, i1, t1, d1⟩ = 0
    · by_cases hT0 : T = 0
      · rw [hpe]
        generalize putV ⟨k1, i1, t1, d1⟩ = L
        subst hT0
        clear hpe
        go_wp2
        go_ret
        exact ⟨rfl, hx5⟩
      · have hbad := fun A h => four_bad hpe T A (by omega) hT2 h
        have hlen : 24 ≤ (putV ⟨k1, i1, t1, d1⟩).length ∧ (putV ⟨k1, i1, t1, d1⟩).length ≤ 512 := ⟨by rw [putV_len hpe]; omega, putV_le _⟩
        have hT0' : ((T : Int) == 0) = false := by simp; omega
        rw [hpe]
        obtain ⟨L, hL⟩ : ∃ L, L = putV ⟨k1, i1, t1, d1⟩ := ⟨_, rfl⟩
        rw [← hL] at hbad hlen ⊢
        clear hpe hL hT0
        go_wp2_with (first | ((with_reducible refine wpl_bytes (d := some 80) 5 Try.underlying9 Try.underlying43 Try.underlying5 ⟨L.toArray⟩ ?_ ?_ ?_)))
        · rfl
        · show L.length ≤ _; unfold maxLen; omega
        intro cp w6 ho hx6 hsz
        have hx7 : Ext [] w w6 := hx5.then0 hx6
        have ho' : Own w6 5 1 (.slice (some ⟨w5.heap.size, 0, none⟩) L.length cp) L.length (bcells L) := ho
        have hg : w.heap.size ≤ w5.heap.size := hx5.size
        clear ho hx5 hx6
        obtain ⟨g, hgg⟩ : ∃ g, g = w5.heap.size := ⟨_, rfl⟩
        rw [← hgg] at ho' hsz hg ⊢
        clear hgg
        obtain ⟨c, hcc⟩ : ∃ c : Nat, at_ % 65536 = (c : Int) := ⟨(at_ % 65536).toNat, by omega⟩
        have hz1 : c % (L.length / 4) < L.length / 4 := Nat.mod_lt c (by omega)
        obtain ⟨z, hz⟩ : ∃ z, c % (L.length / 4) = z := ⟨_, rfl⟩
        rw [hz] at hz1
        have hcz : (c : Int) % ((L.length : Int) / 4) = (z : Int) := by rw [← hz, Int.natCast_emod]; rfl
        have hA : 4 * z = 0 ∨ (4 ≤ 4 * z ∧ 4 * z + 4 ≤ L.length) := by omega
        have hbad2 := hbad (4 * z) hA
        have ht4 : Int.tdiv (L.length : Int) 4 = (L.length : Int) / 4 := Int.tdiv_eq_ediv_of_nonneg (by omega)
        have h4p : (0 : Int) < (L.length : Int) / 4 := by omega
        obtain ⟨N, hN⟩ : ∃ N : Int, (L.length : Int) / 4 = N := ⟨_, rfl⟩
        rw [hN] at hcz ht4 h4p
        have hml := mix_length L (4 * z) T
        have hx0 : mix L (4 * z) T 0 = L := rfl
        have hcn : 0 ≤ (c : Int) := by omega
        rw [← hx0] at ho'
        clear hbad hz hx0
        go_wp2
        go_loopw [16] (fun i wr => ∃ k : Nat, k ≤ 4 ∧ i = .int .i64 k ∧ Own wr 5 1 (.slice (some ⟨g, 0, none⟩) L.length cp) L.length (bcells (mix L (4 * z) T k)) ∧ Ext [] w wr) (fun i _ => 4 - (intOf i).toNat)
        case atStart => exact ⟨0, by omega, rfl, ho', hx7⟩
        case round =>
          clear ho' hx7 hsz
          obtain ⟨k, hk, rfl, ho, hxr⟩ := hrel
          by_cases hlt : k < 4
          · have hAk : 4 * z + k < L.length := by omega
            have hc0 := ho.cell (4 * z + k) (by omega)
            have hf0 := ho.frozen (4 * z + k) (by omega)
            have hst := ho.store (4 * z + k) (.int .u8 ((((mix L (4 * z) T k).getD (4 * z + k) 0) ^^^ tb T k).toNat : Int)) (by omega)
            rw [Nat.zero_add] at hc0 hf0 hst
            have hml2 := hml k
            rw [bcells, List.getElem?_map, List.getElem?_eq_getElem (by omega), Option.map_some] at hc0
            have hgd : (mix L (4 * z) T k).getD (4 * z + k) 0 = (mix L (4 * z) T k)[4 * z + k]'(by omega) := by simp [List.getD, show 4 * z + k < (mix L (4 * z) T k).length by omega]
            rw [← hgd] at hc0
            have hbs : (bcells (mix L (4 * z) T k)).set (4 * z + k) (.int .u8 ((((mix L (4 * z) T k).getD (4 * z + k) 0) ^^^ tb T k).toNat : Int)) = bcells (mix L (4 * z) T (k + 1)) := by
              rw [mix, bcells, bcells, List.map_set]
            rw [hbs] at hst
            obtain ⟨x, hx⟩ : ∃ x, x = (mix L (4 * z) T k).getD (4 * z + k) 0 := ⟨_, rfl⟩
            rw [← hx] at hc0 hst
            have hxt := b8_xor x (tb T k)
            have hxe := hxr.setCell (p := ⟨g, 4 * z + k, none⟩) (.inr hg) (.int .u8 ((x ^^^ tb T k).toNat : Int))
            have hk4 : k = 0 ∨ k = 1 ∨ k = 2 ∨ k = 3 := by omega
            clear hgd hbs hx ho hxr hml2 hml hbad2
            rcases hk4 with rfl | rfl | rfl | rfl
            · have ht : ((tb T 0).toNat : Int) = (T : Int) % 256 := by rw [tb, ofNat_toNat_int]; simp
              rw [ht] at hxt
              simp only [Nat.add_zero] at hc0 hf0 hst hxe
              go_wp2
              go_roundw
              case rel => exact ⟨1, by omega, by go_num, hst, hxe⟩
              case measure => simp [intOf]
            · have ht : ((tb T 1).toNat : Int) = (T : Int) / 256 % 256 := by rw [tb, ofNat_toNat_int]; simp
              rw [ht] at hxt
              go_wp2
              go_roundw
              case rel => exact ⟨2, by omega, by go_num, hst, hxe⟩
              case measure => simp [intOf]
            · have ht : ((tb T 2).toNat : Int) = (T : Int) / 65536 % 256 := by rw [tb, ofNat_toNat_int]; simp
              rw [ht] at hxt
              go_wp2
              go_roundw
              case rel => exact ⟨3, by omega, by go_num, hst, hxe⟩
              case measure => simp [intOf]
            · have ht : ((tb T 3).toNat : Int) = (T : Int) / 16777216 := by rw [tb, ofNat_toNat_int]; simp; omega
              rw [ht] at hxt
              go_wp2
              go_roundw
              case rel => exact ⟨4, by omega, by go_num, hst, hxe⟩
              case measure => simp [intOf]
          · obtain rfl : k = 4 := by omega
            have hob : Rd wr 1 (.slice (some ⟨g, 0, none⟩) L.length cp) L.length (bcells (mix L (4 * z) T 4)) := Own.rd ho
            have hs := run_string_Rd (P := Try.prog) 43 9 5 Try.underlying43 Try.underlying5 Try.underlying9 _ _ _ hob
            have hmk : (mix L (4 * z) T 4).length ≤ 512 := by rw [hml 4]; exact hlen.2
            obtain ⟨M, hM⟩ : ∃ M, M = mix L (4 * z) T 4 := ⟨_, rfl⟩
            rw [← hM] at hs hbad2 hmk
            have hop := sget_any M wr (by omega)
            unfold GetPost at hop
            rw [hbad2, getR_zero (by omega)] at hop
            unfold Rc.val Rc.zero at hop
            simp only at hop
            clear hob ho hM hml hbad2
            go_wp2_with fail
            refine hop.mono ?_
            rintro e w8 ⟨rfl, hx8⟩
            replace hxr := hxr.then0 hx8
            clear hop hs hx8
            go_wp2
            go_ret
            exact ⟨rfl, hxr.alloc _⟩
    · generalize putV ⟨k1, i1, t1, d1⟩ = L
      generalize putE ⟨k1, i1, t1, d1⟩ = y at hpe ⊢
      go_wp2
      go_ret
      exact ⟨rfl, hx5⟩
  · rw [hz] at hput ⊢
    rw [hs]
    obtain ⟨ev, hev⟩ : ∃ v, v = putV Rc.zero := ⟨_, rfl⟩
    obtain ⟨ee, hee⟩ : ∃ v, v = putE Rc.zero := ⟨_, rfl⟩
    rw [← hev, ← hee] at hput
    have e0 : s.isEmpty = false := by cases s; exact absurd rfl h0; rfl
    clear hev hee hs hz h0
    unfold Rc.val Rc.zero at hput
    unfold Rc.val Rc.zero
    simp only at hput ⊢
    go_wp2_with fail
    refine (hput _).mono ?_
    rintro e w3 ⟨rfl, hx3⟩
    obtain ⟨p, hp⟩ : ∃ p, p = w2.heap.size := ⟨_, rfl⟩
    have rz : RcAt w3 p ⟨0, 0, 0, []⟩ := by subst hp; exact (RcAt.new w2 0 0 0 []).keep hx3
    replace hx3 : Ext [] w1 w3 := (hx2.alloc _).then0 hx3
    rw [← hp]
    clear hput hx2 hp
    have z0 := rz.c0
    have z1 := rz.c1
    have z2 := rz.c2
    have z3 := rz.c3
    have zl := rz.lt
    simp only at z0 z1 z2 z3
    clear rz
    have a0 := (ra.keep hx3).c0
    have a1 := (ra.keep hx3).c1
    have a2 := (ra.keep hx3).c2
    have a3 := (ra.keep hx3).c3
    simp only at a0 a1 a2 a3
    have hqq : q < w3.heap.size := Nat.lt_of_lt_of_le ra.lt hx3.size
    have hxa := hxw.then0 hx3
    go_wp2_with fail
    refine (pr _).mono ?_
    rintro e w5 ⟨rfl, hx5⟩
    clear pr a0 a1 a2 a3
    have hx5 : Ext [] w w5 := hxa.then0 hx5
    clear hxa hx3 ra hqq
    by_cases hpe : putE ⟨k1, i1, t1, d1⟩ = 0
    · by_cases hT0 : T = 0
      · rw [hpe]
        generalize putV ⟨k1, i1, t1, d1⟩ = L
        subst hT0
        clear hpe
        go_wp2
        go_ret
        exact ⟨rfl, hx5⟩
      · have hbad := fun A h => four_bad hpe T A (by omega) hT2 h
        have hlen : 24 ≤ (putV ⟨k1, i1, t1, d1⟩).length ∧ (putV ⟨k1, i1, t1, d1⟩).length ≤ 512 := ⟨by rw [putV_len hpe]; omega, putV_le _⟩
        have hT0' : ((T : Int) == 0) = false := by simp; omega
        rw [hpe]
        obtain ⟨L, hL⟩ : ∃ L, L = putV ⟨k1, i1, t1, d1⟩ := ⟨_, rfl⟩
        rw [← hL] at hbad hlen ⊢
        clear hpe hL hT0
        go_wp2_with (first | ((with_reducible refine wpl_bytes (d := some 80) 5 Try.underlying9 Try.underlying43 Try.underlying5 ⟨L.toArray⟩ ?_ ?_ ?_)))
        · rfl
        · show L.length ≤ _; unfold maxLen; omega
        intro cp w6 ho hx6 hsz
        have hx7 : Ext [] w w6 := hx5.then0 hx6
        have ho' : Own w6 5 1 (.slice (some ⟨w5.heap.size, 0, none⟩) L.length cp) L.length (bcells L) := ho
        have hg : w.heap.size ≤ w5.heap.size := hx5.size
        clear ho hx5 hx6
        obtain ⟨g, hgg⟩ : ∃ g, g = w5.heap.size := ⟨_, rfl⟩
        rw [← hgg] at ho' hsz hg ⊢
        clear hgg
        obtain ⟨c, hcc⟩ : ∃ c : Nat, at_ % 65536 = (c : Int) := ⟨(at_ % 65536).toNat, by omega⟩
        have hz1 : c % (L.length / 4) < L.length / 4 := Nat.mod_lt c (by omega)
        obtain ⟨z, hz⟩ : ∃ z, c % (L.length / 4) = z := ⟨_, rfl⟩
        rw [hz] at hz1
        have hcz : (c : Int) % ((L.length : Int) / 4) = (z : Int) := by rw [← hz, Int.natCast_emod]; rfl
        have hA : 4 * z = 0 ∨ (4 ≤ 4 * z ∧ 4 * z + 4 ≤ L.length) := by omega
        have hbad2 := hbad (4 * z) hA
        have ht4 : Int.tdiv (L.length : Int) 4 = (L.length : Int) / 4 := Int.tdiv_eq_ediv_of_nonneg (by omega)
        have h4p : (0 : Int) < (L.length : Int) / 4 := by omega
        obtain ⟨N, hN⟩ : ∃ N : Int, (L.length : Int) / 4 = N := ⟨_, rfl⟩
        rw [hN] at hcz ht4 h4p
        have hml := mix_length L (4 * z) T
        have hx0 : mix L (4 * z) T 0 = L := rfl
        have hcn : 0 ≤ (c : Int) := by omega
        rw [← hx0] at ho'
        clear hbad hz hx0
        go_wp2
        go_loopw [16] (fun i wr => ∃ k : Nat, k ≤ 4 ∧ i = .int .i64 k ∧ Own wr 5 1 (.slice (some ⟨g, 0, none⟩) L.length cp) L.length (bcells (mix L (4 * z) T k)) ∧ Ext [] w wr) (fun i _ => 4 - (intOf i).toNat)
        case atStart => exact ⟨0, by omega, rfl, ho', hx7⟩
        case round =>
          clear ho' hx7 hsz
          obtain ⟨k, hk, rfl, ho, hxr⟩ := hrel
          by_cases hlt : k < 4
          · have hAk : 4 * z + k < L.length := by omega
            have hc0 := ho.cell (4 * z + k) (by omega)
            have hf0 := ho.frozen (4 * z + k) (by omega)
            have hst := ho.store (4 * z + k) (.int .u8 ((((mix L (4 * z) T k).getD (4 * z + k) 0) ^^^ tb T k).toNat : Int)) (by omega)
            rw [Nat.zero_add] at hc0 hf0 hst
            have hml2 := hml k
            rw [bcells, List.getElem?_map, List.getElem?_eq_getElem (by omega), Option.map_some] at hc0
            have hgd : (mix L (4 * z) T k).getD (4 * z + k) 0 = (mix L (4 * z) T k)[4 * z + k]'(by omega) := by simp [List.getD, show 4 * z + k < (mix L (4 * z) T k).length by omega]
            rw [← hgd] at hc0
            have hbs : (bcells (mix L (4 * z) T k)).set (4 * z + k) (.int .u8 ((((mix L (4 * z) T k).getD (4 * z + k) 0) ^^^ tb T k).toNat : Int)) = bcells (mix L (4 * z) T (k + 1)) := by
              rw [mix, bcells, bcells, List.map_set]
            rw [hbs] at hst
            obtain ⟨x, hx⟩ : ∃ x, x = (mix L (4 * z) T k).getD (4 * z + k) 0 := ⟨_, rfl⟩
            rw [← hx] at hc0 hst
            have hxt := b8_xor x (tb T k)
            have hxe := hxr.setCell (p := ⟨g, 4 * z + k, none⟩) (.inr hg) (.int .u8 ((x ^^^ tb T k).toNat : Int))
            have hk4 : k = 0 ∨ k = 1 ∨ k = 2 ∨ k = 3 := by omega
            clear hgd hbs hx ho hxr hml2 hml hbad2
            rcases hk4 with rfl | rfl | rfl | rfl
            · have ht : ((tb T 0).toNat : Int) = (T : Int) % 256 := by rw [tb, ofNat_toNat_int]; simp
              rw [ht] at hxt
              simp only [Nat.add_zero] at hc0 hf0 hst hxe
              go_wp2
              go_roundw
              case rel => exact ⟨1, by omega, by go_num, hst, hxe⟩
              case measure => simp [intOf]
            · have ht : ((tb T 1).toNat : Int) = (T : Int) / 256 % 256 := by rw [tb, ofNat_toNat_int]; simp
              rw [ht] at hxt
              go_wp2
              go_roundw
              case rel => exact ⟨2, by omega, by go_num, hst, hxe⟩
              case measure => simp [intOf]
            · have ht : ((tb T 2).toNat : Int) = (T : Int) / 65536 % 256 := by rw [tb, ofNat_toNat_int]; simp
              rw [ht] at hxt
              go_wp2
              go_roundw
              case rel => exact ⟨3, by omega, by go_num, hst, hxe⟩
              case measure => simp [intOf]
            · have ht : ((tb T 3).toNat : Int) = (T : Int) / 16777216 := by rw [tb, ofNat_toNat_int]; simp; omega
              rw [ht] at hxt
              go_wp2
              go_roundw
              case rel => exact ⟨4, by omega, by go_num, hst, hxe⟩
              case measure => simp [intOf]
          · obtain rfl : k = 4 := by omega
            have hob : Rd wr 1 (.slice (some ⟨g, 0, none⟩) L.length cp) L.length (bcells (mix L (4 * z) T 4)) := Own.rd ho
            have hs := run_string_Rd (P := Try.prog) 43 9 5 Try.underlying43 Try.underlying5 Try.underlying9 _ _ _ hob
            have hmk : (mix L (4 * z) T 4).length ≤ 512 := by rw [hml 4]; exact hlen.2
            obtain ⟨M, hM⟩ : ∃ M, M = mix L (4 * z) T 4 := ⟨_, rfl⟩
            rw [← hM] at hs hbad2 hmk
            have hop := sget_any M wr (by omega)
            unfold GetPost at hop
            rw [hbad2, getR_zero (by omega)] at hop
            unfold Rc.val Rc.zero at hop
            simp only at hop
            clear hob ho hM hml hbad2
            go_wp2_with fail
            refine hop.mono ?_
            rintro e w8 ⟨rfl, hx8⟩
            replace hxr := hxr.then0 hx8
            clear hop hs hx8
            go_wp2
            go_ret
            exact ⟨rfl, hxr.alloc _⟩
    · generalize putV ⟨k1, i1, t1, d1⟩ = L
      generalize putE ⟨k1, i1, t1, d1⟩ = y at hpe ⊢
      go_wp2
      go_ret
      exact ⟨rfl, hx5⟩
end Go.Proofs.Ytpnfgkgloioddaa
