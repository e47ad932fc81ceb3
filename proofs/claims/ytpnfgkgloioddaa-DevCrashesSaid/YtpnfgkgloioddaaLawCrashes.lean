/- DevCrashes: the walk. -/
import Derived.Test.YtpnfgkgloioddaaMdk
import Derived.Test.YtpnfgkgloioddaaLawActs
namespace Go.Proofs.Ytpnfgkgloioddaa
open Go.RowKit
set_option linter.unusedVariables false
set_option linter.unusedSimpArgs false
attribute [local go_sem] i64_and15

theorem acts_ok2 (l : List Ac) (j : Nat) (D : Dv) (h1 : DvOk D) (h2 : InR D) (h3 : ∀ a ∈ l, WfAc a) (h4 : D.since = []) (h5 : l.length ≤ 60) : DvOk (actsD (l.take j) D) ∧ InR (actsD (l.take j) D) ∧ (actsD (l.take j) D).since.length ≤ 1000000 := by
  obtain ⟨r1, r2, r3⟩ := acts_ok (l.take j) D h1 h2 (fun a ha => h3 a (List.mem_of_mem_take ha))
  rw [List.length_take, h4] at r3
  exact ⟨r1, r2, by simp at r3; omega⟩
theorem crash_ok {D : Dv} (fs : List Int) (h1 : DvOk D) : DvOk (crashD fs D) ∧ InR (crashD fs D) ∧ (crashD fs D).since = [] ∧ crashD [] (crashD fs D) = crashD fs D := by
  obtain ⟨_, s2, _, s4, s5⟩ := crashD_size fs D
  have := h1.crash fs
  exact ⟨this, by rw [InR, s2]; simp, s2, crashD_nil s2 s4 s5 this⟩
set_option maxRecDepth 100000 in
set_option maxHeartbeats 40000000 in
theorem crashes_any {w : World} (size : Int) (_ : -9223372036854775808 ≤ size ∧ size ≤ 9223372036854775807) (ad1 : Option Addr) (len1 cap1 : Nat) (l1 : List Ac) (hR1 : Rd w 5 (.slice ad1 len1 cap1) len1 (l1.flatMap Ac.cells)) (hwf1 : ∀ p ∈ l1, WfAc p)
    (fa1 : Option Addr) (fl1 fc1 : Nat) (fs1 : List Int) (hF1 : Rd w 1 (.slice fa1 fl1 fc1) fl1 (fs1.map (Value.int .i64))) (_ : ∀ n ∈ fs1, (Lit.int IntKind.i64 n).wf = true)
    (ad2 : Option Addr) (len2 cap2 : Nat) (l2 : List Ac) (hR2 : Rd w 5 (.slice ad2 len2 cap2) len2 (l2.flatMap Ac.cells)) (hwf2 : ∀ p ∈ l2, WfAc p)
    (fa2 : Option Addr) (fl2 fc2 : Nat) (fs2 : List Int) (hF2 : Rd w 1 (.slice fa2 fl2 fc2) fl2 (fs2.map (Value.int .i64))) (_ : ∀ n ∈ fs2, (Lit.int IntKind.i64 n).wf = true) :
    Calls Try.prog 10 #[.int .i64 size, .slice ad1 len1 cap1, .slice fa1 fl1 fc1, .slice ad2 len2 cap2, .slice fa2 fl2 fc2] w fun e w' => e = .returned (.bool true) ∧ Ext [] w w' := by
  obtain ⟨M, hM⟩ : ∃ M, size % 16 = M := ⟨_, rfl⟩
  have hl1 : l1.length = len1 := by have := hR1.len.2.2.2; rw [flatMap_len _ 5 acells_len] at this; omega
  have hl2 : l2.length = len2 := by have := hR2.len.2.2.2; rw [flatMap_len _ 5 acells_len] at this; omega
  go_enter Try.func10, Try.ntmps10
  go_wp2_with fail
  refine (head3_any w).mono ?_
  rintro e w1 ⟨rfl, hx1⟩
  go_wp2_with fail
  refine (few3_any ad1 len1 cap1 l1 w1 (hR1.keep hx1 (by simp))).mono ?_
  rintro e w2 ⟨rfl, hx2⟩
  replace hx2 : Ext [] w w2 := hx1.then0 hx2
  by_cases hf1 : fewA l1 = true
  · rw [hf1]
    have hfew1 : l1.length ≤ 60 := by unfold fewA at hf1; simp at hf1; exact hf1.2
    clear hf1
    go_wp2_with fail
    refine (few3_any ad2 len2 cap2 l2 w2 (hR2.keep hx2 (by simp))).mono ?_
    rintro e w3 ⟨rfl, hx3⟩
    replace hx3 : Ext [] w w3 := hx2.then0 hx3
    clear hx1 hx2
    by_cases hf2 : fewA l2 = true
    · rw [hf2]
      have hfew2 : l2.length ≤ 60 := by unfold fewA at hf2; simp at hf2; exact hf2.2
      clear hf2
      by_cases h1 : 100 < fl1
      · go_wp2
        go_ret
        exact ⟨rfl, hx3⟩
      · by_cases h2 : 100 < fl2
        · go_wp2
          go_ret
          exact ⟨rfl, hx3⟩
        · replace hR1 := hR1.keep hx3 (by simp)
          replace hR2 := hR2.keep hx3 (by simp)
          replace hF1 := hF1.keep hx3 (by simp)
          replace hF2 := hF2.keep hx3 (by simp)
          go_wp2_with fail
          refine (new_n M w3 _ (Ext.refl _ _)).mono ?_
          rintro e w4 ⟨b0, rfl, hd, -⟩
          go_wp2_with fail
          refine (mnew_any M w4).mono ?_
          intro e w5 hm
          obtain ⟨m0, rfl, hp⟩ := pair_new hd rfl hm
          clear hd hm h1 h2 hM
          obtain ⟨D0, hD0⟩ : ∃ D, D = newD M := ⟨_, rfl⟩
          obtain ⟨D1, hD1⟩ : ∃ D, D = crashD fs1 (actsD l1 D0) := ⟨_, rfl⟩
          obtain ⟨D2, hD2⟩ : ∃ D, D = crashD fs2 (actsD l2 D1) := ⟨_, rfl⟩
          rw [← hD0] at hp
          have hA0 : DvOk D0 ∧ InR D0 ∧ D0.since = [] := by rw [hD0]; exact ⟨DvOk.new _, InR.new _, rfl⟩
          have HA0 : Hid (∀ j, DvOk (actsD (l1.take j) D0) ∧ InR (actsD (l1.take j) D0) ∧ (actsD (l1.take j) D0).since.length ≤ 1000000) := fun j => acts_ok2 l1 j D0 hA0.1 hA0.2.1 hwf1 hA0.2.2 hfew1
          have hA1 : DvOk D1 ∧ InR D1 ∧ D1.since = [] ∧ crashD [] D1 = D1 := by
            have := (HA0.out l1.length).1
            rw [List.take_length] at this
            rw [hD1]
            exact crash_ok fs1 this
          have HA1 : Hid (∀ j, DvOk (actsD (l2.take j) D1) ∧ InR (actsD (l2.take j) D1) ∧ (actsD (l2.take j) D1).since.length ≤ 1000000) := fun j => acts_ok2 l2 j D1 hA1.1 hA1.2.1 hwf2 hA1.2.2.1 hfew2
          have hA2 : DvOk D2 ∧ InR D2 ∧ D2.since = [] ∧ crashD [] D2 = D2 := by
            have := (HA1.out l2.length).1
            rw [List.take_length] at this
            rw [hD2]
            exact crash_ok fs2 this
          have HC0 : Hid (crashD fs1 (actsD l1 D0) = D1 ∧ DvOk D1 ∧ D1.since = [] ∧ crashD [] D1 = D1) := ⟨hD1.symm, hA1.1, hA1.2.2.1, hA1.2.2.2⟩
          have HC1 : Hid (crashD fs2 (actsD l2 D1) = D2 ∧ DvOk D2 ∧ D2.since = [] ∧ crashD [] D2 = D2) := ⟨hD2.symm, hA2.1, hA2.2.2.1, hA2.2.2.2⟩
          have hb1 : len1 ≤ 60 := by omega
          have hb2 : len2 ≤ 60 := by omega
          clear hD0 hD1 hD2 hA0 hA1 hA2 hfew1 hfew2
          replace hp := (PairQ.of hp).alloc (.cells #[.slice ad1 len1 cap1, .slice ad2 len2 cap2] 54)
          obtain ⟨Q, hQ⟩ : ∃ Q, Q = w5.heap.size := ⟨_, rfl⟩
          go_wp2_with fail
          rw [← hQ]
          rw [← hQ] at hp
          obtain ⟨o, ho⟩ : ∃ o, o = Obj.cells #[.slice ad1 len1 cap1, .slice ad2 len2 cap2] 54 := ⟨_, rfl⟩
          rw [← ho] at hp
          have hQc : Hid (∀ W D1 D2 b m, PairQ w3 W [(Q, o)] b m D1 D2 → W.cell? ⟨Q, 0, none⟩ = some (.slice ad1 len1 cap1) ∧ W.cell? ⟨Q, 1, none⟩ = some (.slice ad2 len2 cap2)) := by
            intro W E1 E2 b m h
            have hB : Blk W Q 54 [.slice ad1 len1 cap1, .slice ad2 len2 cap2] := by have := h.heap (q := Q) (o := o) (by simp); rw [ho] at this; exact this
            exact ⟨hB.c 0, hB.c 1⟩
          clear hQ
          go_loopw [11, 12, 48] (fun d mm i wr => ∃ b m, d = .pointer (some ⟨b, 0, none⟩) ∧ mm = .pointer (some ⟨m, 0, none⟩) ∧ ((i = .int .i64 0 ∧ PairQ w3 wr [(Q, o)] b m D0 D0) ∨ (i = .int .i64 1 ∧ PairQ w3 wr [(Q, o)] b m D1 D1) ∨ (i = .int .i64 2 ∧ PairQ w3 wr [(Q, o)] b m D2 D2))) (fun _ _ i _ => 2 - (intOf i).toNat)
          case atStart => exact ⟨b0, m0, rfl, rfl, .inl ⟨rfl, by rw [ho] at hp ⊢; exact hp⟩⟩
          case round =>
            clear hp ho
            obtain ⟨b, m, rfl, rfl, hrel⟩ := hrel
            rcases hrel with ⟨rfl, hp⟩ | ⟨rfl, hp⟩ | ⟨rfl, hp⟩
            · obtain ⟨q0, q1⟩ := hQc.out _ _ _ _ _ hp
              go_wp2_with fail
              go_loopw [55] (fun i w2' => ∃ k : Nat, k ≤ len1 ∧ i = .int .i64 k ∧ PairQ w3 w2' [(Q, o)] b m (actsD (l1.take k) D0) (actsD (l1.take k) D0)) (fun i _ => len1 - (intOf i).toNat)
              case atStart => exact ⟨0, by omega, rfl, hp⟩
              case round =>
                clear hp q0 q1 hR2 hF2
                obtain ⟨k, hk, rfl, hp⟩ := hrel
                by_cases hlt : k < len1
                · have hx := hp.ext
                  obtain ⟨g, off, rfl, hbw, hc⟩ := hR1.view (by omega)
                  have hkl : k < l1.length := by omega
                  have c0 : wr.cell? ⟨g, off + k * 5, none⟩ = some (.int .i64 (l1[k]).k) := hx.cell (by simp) (hc (k * 5 + 0) _ (by rw [flatMap_get _ 5 acells_len _ k 0 hkl (by omega)]; rfl))
                  have c1 : wr.cell? ⟨g, off + (k * 5 + 1), none⟩ = some (.int .i64 (l1[k]).block) := hx.cell (by simp) (hc (k * 5 + 1) _ (by rw [flatMap_get _ 5 acells_len _ k 1 hkl (by omega)]; rfl))
                  have c2 : wr.cell? ⟨g, off + (k * 5 + 2), none⟩ = some (.int .i64 (l1[k]).n) := hx.cell (by simp) (hc (k * 5 + 2) _ (by rw [flatMap_get _ 5 acells_len _ k 2 hkl (by omega)]; rfl))
                  have c3 : wr.cell? ⟨g, off + (k * 5 + 3), none⟩ = some (str (l1[k]).data) := hx.cell (by simp) (hc (k * 5 + 3) _ (by rw [flatMap_get _ 5 acells_len _ k 3 hkl (by omega)]; rfl))
                  have c4 : wr.cell? ⟨g, off + (k * 5 + 4), none⟩ = some (.int .u8 ((l1[k]).bits.toNat : Int)) := hx.cell (by simp) (hc (k * 5 + 4) _ (by rw [flatMap_get _ 5 acells_len _ k 4 hkl (by omega)]; rfl))
                  rw [← Nat.add_assoc] at c1 c2 c3 c4
                  have HK : Hid (actsD (l1.take (k + 1)) D0 = actD l1[k] (actsD (l1.take k) D0)) := by
                    show _ = _
                    rw [List.take_succ_eq_append_getElem hkl, actsD_snoc]
                  have ha := hwf1 l1[k] (List.getElem_mem _)
                  obtain ⟨o1, o2, o3⟩ := HA0.out k
                  obtain ⟨a, haa⟩ : ∃ a, a = l1[k] := ⟨_, rfl⟩
                  rw [← haa] at c0 c1 c2 c3 c4 HK ha
                  obtain ⟨D, hD⟩ : ∃ D, D = actsD (l1.take k) D0 := ⟨_, rfl⟩
                  rw [← hD] at hp HK o1 o2 o3
                  obtain ⟨D', hD'⟩ : ∃ D', D' = actD a D := ⟨_, rfl⟩
                  obtain ⟨E, hE⟩ : ∃ E, E = actE a D := ⟨_, rfl⟩
                  have cP : ∀ W S, PairQ w3 W S b m D D → Calls Try.prog 34 #[.pointer (some ⟨b, 0, none⟩), a.val] W fun e w' => e = .returned (.int .i64 E) ∧ PairQ w3 w' S b m D' D := fun W S hW => by rw [hE, hD']; exact pairQ_play hW a ha o1 o3
                  have cD : ∀ W S, PairQ w3 W S b m D' D → Calls Try.prog 35 #[.pointer (some ⟨m, 0, none⟩), a.val] W fun e w' => e = .returned (.int .i64 E) ∧ PairQ w3 w' S b m D' D' := fun W S hW => by
                    have := pairQ_do hW a ha o1 o2 o3
                    rw [← hE, ← hD'] at this
                    exact this
                  rw [← hD'] at HK
                  clear haa hD hD' hE hc o1 o2 o3 ha hx
                  obtain ⟨ak, ab, an, sx, ac⟩ := a
                  unfold Ac.val at cP cD
                  simp only at c0 c1 c2 c3 c4 cP cD
                  replace hp := hp.alloc (.cells #[.int .i64 ak, .int .i64 ab, .int .i64 an, .string ⟨sx.toArray⟩, .int .u8 (ac.toNat : Int)] 59)
                  go_wp2_with fail
                  obtain ⟨W, hW⟩ : ∃ W, W = wr.alloc (.cells #[.int .i64 ak, .int .i64 ab, .int .i64 an, .string ⟨sx.toArray⟩, .int .u8 (ac.toNat : Int)] 59) := ⟨_, rfl⟩
                  obtain ⟨r, hr⟩ : ∃ r, r = wr.heap.size := ⟨_, rfl⟩
                  rw [← hW, ← hr]
                  rw [← hW, ← hr] at hp
                  clear hW hr c0 c1 c2 c3 c4
                  obtain ⟨S, hS⟩ : ∃ S, S = [(r, Obj.cells #[.int .i64 ak, .int .i64 ab, .int .i64 an, .string ⟨sx.toArray⟩, .int .u8 (ac.toNat : Int)] 59), (Q, o)] := ⟨_, rfl⟩
                  rw [← hS] at hp
                  have cQ : Hid (∀ (w' : World) D1 D2, PairQ w3 w' S b m D1 D2 → w'.cell? ⟨r, 0, none⟩ = some (.int .i64 ak) ∧ w'.cell? ⟨r, 1, none⟩ = some (.int .i64 ab) ∧ w'.cell? ⟨r, 2, none⟩ = some (.int .i64 an) ∧ w'.cell? ⟨r, 3, none⟩ = some (str sx) ∧ w'.cell? ⟨r, 4, none⟩ = some (.int .u8 (ac.toNat : Int))) := by
                    intro w' E1 E2 h
                    have hB : Blk w' r 59 [.int .i64 ak, .int .i64 ab, .int .i64 an, str sx, .int .u8 (ac.toNat : Int)] := h.heap (by rw [hS]; simp)
                    exact ⟨hB.c 0, hB.c 1, hB.c 2, hB.c 3, hB.c 4⟩
                  have hSs : Hid (∀ p ∈ [(Q, o)], p ∈ S) := by intro p h; rw [hS]; simp at h ⊢; exact .inr h
                  clear hS
                  obtain ⟨e0, e1, e2, e3, e4⟩ := cQ.out _ _ _ hp
                  have hpd := hp.keep ((Ext.refl [] W).drew)
                  clear hp
                  go_region_with
                    (first
                      | ((go_at_call 34); (with_reducible refine (cP _ S hpd).mono ?_); rintro e w5 ⟨rfl, hp5⟩; obtain ⟨d0, d1, d2, d3, d4⟩ := cQ.out w5 _ _ hp5)
                      | ((go_at_call 35); (with_reducible refine (cD _ S hp5).mono ?_); rintro e w6 ⟨rfl, hp6⟩))
                  all_goals (
                    clear cQ cP cD e0 e1 e2 e3 e4 d0 d1 d2 d3 d4 hpd hp5
                    rw [← HK.out] at hp6
                    have HP : Hid (PairQ w3 w6 [(Q, o)] b m (actsD (l1.take (k + 1)) D0) (actsD (l1.take (k + 1)) D0)) := hp6.sub hSs.out
                    clear hp6 HK hSs
                    go_wp2
                    go_roundw
                    case rel => exact ⟨k + 1, by omega, by go_num, HP.out⟩
                    case measure => simp [intOf]; omega)
                · obtain rfl : k = len1 := by omega
                  rw [← hl1, List.take_length] at hp
                  obtain ⟨o1, o2, o3⟩ := HA0.out l1.length
                  rw [List.take_length] at o1 o2 o3
                  obtain ⟨HC, p1, p2, p3⟩ := HC0.out
                  obtain ⟨A, hA⟩ : ∃ A, A = actsD l1 D0 := ⟨_, rfl⟩
                  rw [← hA] at hp o1 o2 o3 HC
                  have p4 : D1.since.length ≤ 1000000 := by rw [p2]; simp
                  have HCh : Hid (crashD fs1 A = D1) := HC
                  have HCn : Hid (crashD [] D1 = D1) := p3
                  clear hA HC p2 p3 HA0 HA1 HC0 HC1
                  go_wp2_with fail
                  refine (pair_c1 (hp.keep ((Ext.refl [] wr).alloc _)) o1 fa1 fl1 fc1 fs1 (hF1.keep (hp.ext.alloc _) (by simp))).mono ?_
                  rintro e w5 ⟨b', rfl, hp5, hx5⟩
                  have hF5 := hF1.keep ((hp.ext.alloc _).then0 hx5) (by simp)
                  clear hp hx5
                  go_wp2_with fail
                  refine (pair_c2 fs1 hp5 o1 o2 o3 fa1 fl1 fc1 hF5).mono ?_
                  rintro e w6 ⟨m', rfl, hp6, hx6⟩
                  clear hp5 hF5 hx6
                  rw [HCh.out] at hp6
                  go_wp2_with fail
                  refine (pair_same hp6.at p1 p4).mono ?_
                  rintro e w7 ⟨rfl, hx7⟩
                  have hp7 := hp6.keep hx7
                  clear hp6 hx7
                  go_wp2_with fail
                  refine (pair_c3 hp7 p1 HCn.out).mono ?_
                  rintro e w8 ⟨b3, rfl, hp8, hx8⟩
                  replace hp7 := hp7.keep hx8
                  clear hx8
                  go_wp2_with fail
                  refine (pair_same hp8 p1 p4).mono ?_
                  rintro e w9 ⟨rfl, hx9⟩
                  have hp9 := hp7.keep hx9
                  clear hp7 hp8 hx9 o1 o2 o3
                  go_wp2
                  go_roundw
                  case rel => exact ⟨b', m', rfl, rfl, .inr (.inl ⟨by go_num, hp9⟩)⟩
                  case measure => simp [intOf]
            · obtain ⟨q0, q1⟩ := hQc.out _ _ _ _ _ hp
              go_wp2_with fail
              go_loopw [55] (fun i w2' => ∃ k : Nat, k ≤ len2 ∧ i = .int .i64 k ∧ PairQ w3 w2' [(Q, o)] b m (actsD (l2.take k) D1) (actsD (l2.take k) D1)) (fun i _ => len2 - (intOf i).toNat)
              case atStart => exact ⟨0, by omega, rfl, hp⟩
              case round =>
                clear hp q0 q1 hR1 hF1
                obtain ⟨k, hk, rfl, hp⟩ := hrel
                by_cases hlt : k < len2
                · have hx := hp.ext
                  obtain ⟨g, off, rfl, hbw, hc⟩ := hR2.view (by omega)
                  have hkl : k < l2.length := by omega
                  have c0 : wr.cell? ⟨g, off + k * 5, none⟩ = some (.int .i64 (l2[k]).k) := hx.cell (by simp) (hc (k * 5 + 0) _ (by rw [flatMap_get _ 5 acells_len _ k 0 hkl (by omega)]; rfl))
                  have c1 : wr.cell? ⟨g, off + (k * 5 + 1), none⟩ = some (.int .i64 (l2[k]).block) := hx.cell (by simp) (hc (k * 5 + 1) _ (by rw [flatMap_get _ 5 acells_len _ k 1 hkl (by omega)]; rfl))
                  have c2 : wr.cell? ⟨g, off + (k * 5 + 2), none⟩ = some (.int .i64 (l2[k]).n) := hx.cell (by simp) (hc (k * 5 + 2) _ (by rw [flatMap_get _ 5 acells_len _ k 2 hkl (by omega)]; rfl))
                  have c3 : wr.cell? ⟨g, off + (k * 5 + 3), none⟩ = some (str (l2[k]).data) := hx.cell (by simp) (hc (k * 5 + 3) _ (by rw [flatMap_get _ 5 acells_len _ k 3 hkl (by omega)]; rfl))
                  have c4 : wr.cell? ⟨g, off + (k * 5 + 4), none⟩ = some (.int .u8 ((l2[k]).bits.toNat : Int)) := hx.cell (by simp) (hc (k * 5 + 4) _ (by rw [flatMap_get _ 5 acells_len _ k 4 hkl (by omega)]; rfl))
                  rw [← Nat.add_assoc] at c1 c2 c3 c4
                  have HK : Hid (actsD (l2.take (k + 1)) D1 = actD l2[k] (actsD (l2.take k) D1)) := by
                    show _ = _
                    rw [List.take_succ_eq_append_getElem hkl, actsD_snoc]
                  have ha := hwf2 l2[k] (List.getElem_mem _)
                  obtain ⟨o1, o2, o3⟩ := HA1.out k
                  obtain ⟨a, haa⟩ : ∃ a, a = l2[k] := ⟨_, rfl⟩
                  rw [← haa] at c0 c1 c2 c3 c4 HK ha
                  obtain ⟨D, hD⟩ : ∃ D, D = actsD (l2.take k) D1 := ⟨_, rfl⟩
                  rw [← hD] at hp HK o1 o2 o3
                  obtain ⟨D', hD'⟩ : ∃ D', D' = actD a D := ⟨_, rfl⟩
                  obtain ⟨E, hE⟩ : ∃ E, E = actE a D := ⟨_, rfl⟩
                  have cP : ∀ W S, PairQ w3 W S b m D D → Calls Try.prog 34 #[.pointer (some ⟨b, 0, none⟩), a.val] W fun e w' => e = .returned (.int .i64 E) ∧ PairQ w3 w' S b m D' D := fun W S hW => by rw [hE, hD']; exact pairQ_play hW a ha o1 o3
                  have cD : ∀ W S, PairQ w3 W S b m D' D → Calls Try.prog 35 #[.pointer (some ⟨m, 0, none⟩), a.val] W fun e w' => e = .returned (.int .i64 E) ∧ PairQ w3 w' S b m D' D' := fun W S hW => by
                    have := pairQ_do hW a ha o1 o2 o3
                    rw [← hE, ← hD'] at this
                    exact this
                  rw [← hD'] at HK
                  clear haa hD hD' hE hc o1 o2 o3 ha hx
                  obtain ⟨ak, ab, an, sx, ac⟩ := a
                  unfold Ac.val at cP cD
                  simp only at c0 c1 c2 c3 c4 cP cD
                  replace hp := hp.alloc (.cells #[.int .i64 ak, .int .i64 ab, .int .i64 an, .string ⟨sx.toArray⟩, .int .u8 (ac.toNat : Int)] 59)
                  go_wp2_with fail
                  obtain ⟨W, hW⟩ : ∃ W, W = wr.alloc (.cells #[.int .i64 ak, .int .i64 ab, .int .i64 an, .string ⟨sx.toArray⟩, .int .u8 (ac.toNat : Int)] 59) := ⟨_, rfl⟩
                  obtain ⟨r, hr⟩ : ∃ r, r = wr.heap.size := ⟨_, rfl⟩
                  rw [← hW, ← hr]
                  rw [← hW, ← hr] at hp
                  clear hW hr c0 c1 c2 c3 c4
                  obtain ⟨S, hS⟩ : ∃ S, S = [(r, Obj.cells #[.int .i64 ak, .int .i64 ab, .int .i64 an, .string ⟨sx.toArray⟩, .int .u8 (ac.toNat : Int)] 59), (Q, o)] := ⟨_, rfl⟩
                  rw [← hS] at hp
                  have cQ : Hid (∀ (w' : World) D1 D2, PairQ w3 w' S b m D1 D2 → w'.cell? ⟨r, 0, none⟩ = some (.int .i64 ak) ∧ w'.cell? ⟨r, 1, none⟩ = some (.int .i64 ab) ∧ w'.cell? ⟨r, 2, none⟩ = some (.int .i64 an) ∧ w'.cell? ⟨r, 3, none⟩ = some (str sx) ∧ w'.cell? ⟨r, 4, none⟩ = some (.int .u8 (ac.toNat : Int))) := by
                    intro w' E1 E2 h
                    have hB : Blk w' r 59 [.int .i64 ak, .int .i64 ab, .int .i64 an, str sx, .int .u8 (ac.toNat : Int)] := h.heap (by rw [hS]; simp)
                    exact ⟨hB.c 0, hB.c 1, hB.c 2, hB.c 3, hB.c 4⟩
                  have hSs : Hid (∀ p ∈ [(Q, o)], p ∈ S) := by intro p h; rw [hS]; simp at h ⊢; exact .inr h
                  clear hS
                  obtain ⟨e0, e1, e2, e3, e4⟩ := cQ.out _ _ _ hp
                  have hpd := hp.keep ((Ext.refl [] W).drew)
                  clear hp
                  go_region_with
                    (first
                      | ((go_at_call 34); (with_reducible refine (cP _ S hpd).mono ?_); rintro e w5 ⟨rfl, hp5⟩; obtain ⟨d0, d1, d2, d3, d4⟩ := cQ.out w5 _ _ hp5)
                      | ((go_at_call 35); (with_reducible refine (cD _ S hp5).mono ?_); rintro e w6 ⟨rfl, hp6⟩))
                  all_goals (
                    clear cQ cP cD e0 e1 e2 e3 e4 d0 d1 d2 d3 d4 hpd hp5
                    rw [← HK.out] at hp6
                    have HP : Hid (PairQ w3 w6 [(Q, o)] b m (actsD (l2.take (k + 1)) D1) (actsD (l2.take (k + 1)) D1)) := hp6.sub hSs.out
                    clear hp6 HK hSs
                    go_wp2
                    go_roundw
                    case rel => exact ⟨k + 1, by omega, by go_num, HP.out⟩
                    case measure => simp [intOf]; omega)
                · obtain rfl : k = len2 := by omega
                  rw [← hl2, List.take_length] at hp
                  obtain ⟨o1, o2, o3⟩ := HA1.out l2.length
                  rw [List.take_length] at o1 o2 o3
                  obtain ⟨HC, p1, p2, p3⟩ := HC1.out
                  obtain ⟨A, hA⟩ : ∃ A, A = actsD l2 D1 := ⟨_, rfl⟩
                  rw [← hA] at hp o1 o2 o3 HC
                  have p4 : D2.since.length ≤ 1000000 := by rw [p2]; simp
                  have HCh : Hid (crashD fs2 A = D2) := HC
                  have HCn : Hid (crashD [] D2 = D2) := p3
                  clear hA HC p2 p3 HA0 HA1 HC0 HC1
                  go_wp2_with fail
                  refine (pair_c1 (hp.keep ((Ext.refl [] wr).alloc _)) o1 fa2 fl2 fc2 fs2 (hF2.keep (hp.ext.alloc _) (by simp))).mono ?_
                  rintro e w5 ⟨b', rfl, hp5, hx5⟩
                  have hF5 := hF2.keep ((hp.ext.alloc _).then0 hx5) (by simp)
                  clear hp hx5
                  go_wp2_with fail
                  refine (pair_c2 fs2 hp5 o1 o2 o3 fa2 fl2 fc2 hF5).mono ?_
                  rintro e w6 ⟨m', rfl, hp6, hx6⟩
                  clear hp5 hF5 hx6
                  rw [HCh.out] at hp6
                  go_wp2_with fail
                  refine (pair_same hp6.at p1 p4).mono ?_
                  rintro e w7 ⟨rfl, hx7⟩
                  have hp7 := hp6.keep hx7
                  clear hp6 hx7
                  go_wp2_with fail
                  refine (pair_c3 hp7 p1 HCn.out).mono ?_
                  rintro e w8 ⟨b3, rfl, hp8, hx8⟩
                  replace hp7 := hp7.keep hx8
                  clear hx8
                  go_wp2_with fail
                  refine (pair_same hp8 p1 p4).mono ?_
                  rintro e w9 ⟨rfl, hx9⟩
                  have hp9 := hp7.keep hx9
                  clear hp7 hp8 hx9 o1 o2 o3
                  go_wp2
                  go_roundw
                  case rel => exact ⟨b', m', rfl, rfl, .inr (.inr ⟨by go_num, hp9⟩)⟩
                  case measure => simp [intOf]
            · have hz := hx3.then0 hp.ext
              clear hp HA0 HA1 HC0 HC1 hQc
              go_wp2
              go_ret
              exact ⟨rfl, hz⟩
    · have hf' : fewA l2 = false := by simpa using hf2
      rw [hf']
      clear hf2 hf'
      go_wp2
      go_ret
      exact ⟨rfl, hx3⟩
  · have hf' : fewA l1 = false := by simpa using hf1
    rw [hf']
    clear hf1 hf'
    go_wp2
    go_ret
    exact ⟨rfl, hx2⟩
end Go.Proofs.Ytpnfgkgloioddaa
