/- DevActs: the walk. -/
import Derived.Test.YtpnfgkgloioddaaMdj
import Derived.Test.YtpnfgkgloioddaaBits
namespace Go.Proofs.Ytpnfgkgloioddaa
open Go.RowKit
set_option linter.unusedVariables false
set_option linter.unusedSimpArgs false
attribute [local go_sem] i64_and31

theorem acts_ok : ∀ (l : List Ac) (D : Dv), DvOk D → InR D → (∀ a ∈ l, WfAc a) → DvOk (actsD l D) ∧ InR (actsD l D) ∧ (actsD l D).since.length ≤ D.since.length + l.length
  | [], D, h1, h2, _ => ⟨h1, h2, by show D.since.length ≤ _; simp⟩
  | a :: l, D, h1, h2, h3 => by
    obtain ⟨_, s1, s2⟩ := act_same a D
    obtain ⟨r1, r2, r3⟩ := acts_ok l (actD a D) (h1.act a (h3 a (by simp))) (s2 h2) (fun x hx => h3 x (by simp [hx]))
    exact ⟨r1, r2, by show (actsD l (actD a D)).since.length ≤ _; simp only [List.length_cons]; omega⟩
/-- An act on the device; what was made since the pair was looked at stays. -/
theorem pair_play2 {w0 w W : World} {b m : Nat} {D1 D2 : Dv} (h : PairAt w0 w b m D1 D2) (hxW : Ext [] w W) (a : Ac) (ha : WfAc a) (hok : DvOk D1) (hlen : D1.since.length ≤ 1000000) :
    Calls Try.prog 34 #[.pointer (some ⟨b, 0, none⟩), a.val] W fun e w' => e = .returned (.int .i64 (actE a D1)) ∧ PairAt w0 w' b m (actD a D1) D2 ∧ ∀ q, w.heap.size ≤ q → ∀ o, W.heap[q]? = some o → w'.heap[q]? = some o := by
  obtain ⟨F, gs, gg, gh, vn, n, h1, h2, h3, h4, h5⟩ := h
  refine (play_any b F D1 a ha W (h1.keep0 hxW) hok hlen).mono ?_
  rintro e w' ⟨he, hx, F1, hF1, hs1⟩
  obtain ⟨F', hF', hs⟩ := hF1.small
  have hsz := hx.size
  have hsz0 := h5.size
  have hszW := hxW.size
  have hnot : ∀ k ∈ mdF m gs gg gh vn, k ∉ F := fun k hk hm => (h3 k hm).2.2 hk
  have hM := (h2.keep0 hxW).keep hx (hnot _ mdF_mem.1.1) (hnot _ mdF_mem.1.2.1) (hnot _ mdF_mem.1.2.2.1) (hnot _ mdF_mem.1.2.2.2) (fun k hk => hnot k (mdF_mem.2 k hk))
  refine ⟨he, ⟨F', gs, gg, gh, vn, n, hF', hM, fun k hk => ?_, fun k hk => ⟨(h4 k hk).1, by have := (h4 k hk).2; omega⟩, (h5.then0 hxW).trans hx (fun k hk => .inr (h3 k hk).1)⟩, fun q hq o ho => hx.heap (fun hm => by have := (h3 q hm).2.1; omega) ho⟩
  rcases hs1 k (hs k hk).1 with hk1 | hk1
  · exact ⟨(h3 k hk1).1, (hs k hk).2, (h3 k hk1).2.2⟩
  · exact ⟨by omega, (hs k hk).2, fun hm => by have := (h4 k hm).2; omega⟩
set_option maxRecDepth 100000 in
set_option maxHeartbeats 20000000 in
theorem acts_any {w : World} (size : Int) (_ : -9223372036854775808 ≤ size ∧ size ≤ 9223372036854775807) (ad : Option Addr) (len cap : Nat) (l : List Ac) (hR : Rd w 5 (.slice ad len cap) len (l.flatMap Ac.cells)) (hwf : ∀ p ∈ l, WfAc p) :
    Calls Try.prog 9 #[.int .i64 size, .slice ad len cap] w fun e w' => e = .returned (.bool true) ∧ Ext [] w w' := by
  have hl : l.length = len := by have := hR.len.2.2.2; rw [flatMap_len _ 5 acells_len] at this; omega
  obtain ⟨M, hM⟩ : ∃ M, size % 32 = M := ⟨_, rfl⟩
  have hM0 : 0 ≤ M := by omega
  have hM1 : M < 32 := by omega
  go_enter Try.func9, Try.ntmps9
  go_wp2_with fail
  refine (head3_any w).mono ?_
  rintro e w1 ⟨rfl, hx1⟩
  go_wp2_with fail
  refine (few3_any ad len cap l w1 (hR.keep hx1 (by simp))).mono ?_
  rintro e w2 ⟨rfl, hx2⟩
  have hxw : Ext [] w w2 := hx1.then0 hx2
  clear hx1 hx2
  by_cases hf : fewA l = true
  · rw [hf]
    have hfew : (∀ a ∈ l, a.data.length ≤ 600) ∧ l.length ≤ 60 := by unfold fewA at hf; simpa using hf
    have hl60 : len ≤ 60 := by omega
    replace hR := hR.keep hxw (by simp)
    have HA : Hid (∀ k : Nat, DvOk (actsD (l.take k) (newD (M - 2))) ∧ InR (actsD (l.take k) (newD (M - 2))) ∧ (actsD (l.take k) (newD (M - 2))).since.length ≤ 1000000) := by
      intro k
      obtain ⟨r1, r2, r3⟩ := acts_ok (l.take k) (newD (M - 2)) (DvOk.new _) (InR.new _) (fun a ha => hwf a (List.mem_of_mem_take ha))
      have e0 : (newD (M - 2)).since.length = 0 := rfl
      rw [List.length_take] at r3
      exact ⟨r1, r2, by omega⟩
    clear hf hfew
    go_wp2_with fail
    refine (new_n (M - 2) w2 _ (Ext.refl _ _)).mono ?_
    rintro e w3 ⟨b, rfl, hd, -⟩
    go_wp2_with fail
    refine (mnew_any (M - 2) w3).mono ?_
    intro e w4 hm
    obtain ⟨m, rfl, hp⟩ := pair_new hd rfl hm
    clear hd hm
    go_wp2_with fail
    go_loopw [23] (fun i wr => ∃ k : Nat, k ≤ len ∧ i = .int .i64 k ∧ PairAt w2 wr b m (actsD (l.take k) (newD (M - 2))) (actsD (l.take k) (newD (M - 2)))) (fun i _ => len - (intOf i).toNat)
    case atStart => exact ⟨0, by omega, rfl, hp⟩
    case round =>
      clear hp
      obtain ⟨k, hk, rfl, hp⟩ := hrel
      by_cases hlt : k < len
      · have hx := hp.ext
        obtain ⟨g, off, rfl, hbw, hc⟩ := hR.view (by omega)
        have hkl : k < l.length := by omega
        have c0 : wr.cell? ⟨g, off + k * 5, none⟩ = some (.int .i64 (l[k]).k) := hx.cell (by simp) (hc (k * 5 + 0) _ (by rw [flatMap_get _ 5 acells_len _ k 0 hkl (by omega)]; rfl))
        have c1 : wr.cell? ⟨g, off + (k * 5 + 1), none⟩ = some (.int .i64 (l[k]).block) := hx.cell (by simp) (hc (k * 5 + 1) _ (by rw [flatMap_get _ 5 acells_len _ k 1 hkl (by omega)]; rfl))
        have c2 : wr.cell? ⟨g, off + (k * 5 + 2), none⟩ = some (.int .i64 (l[k]).n) := hx.cell (by simp) (hc (k * 5 + 2) _ (by rw [flatMap_get _ 5 acells_len _ k 2 hkl (by omega)]; rfl))
        have c3 : wr.cell? ⟨g, off + (k * 5 + 3), none⟩ = some (str (l[k]).data) := hx.cell (by simp) (hc (k * 5 + 3) _ (by rw [flatMap_get _ 5 acells_len _ k 3 hkl (by omega)]; rfl))
        have c4 : wr.cell? ⟨g, off + (k * 5 + 4), none⟩ = some (.int .u8 ((l[k]).bits.toNat : Int)) := hx.cell (by simp) (hc (k * 5 + 4) _ (by rw [flatMap_get _ 5 acells_len _ k 4 hkl (by omega)]; rfl))
        rw [← Nat.add_assoc] at c1 c2 c3 c4
        have HK : Hid (actsD (l.take (k + 1)) (newD (M - 2)) = actD l[k] (actsD (l.take k) (newD (M - 2)))) := by
          show _ = _
          rw [List.take_succ_eq_append_getElem hkl, actsD_snoc]
        have ha := hwf l[k] (List.getElem_mem _)
        obtain ⟨o1, o2, o3⟩ := HA.out k
        obtain ⟨p1, p2, p3⟩ := HA.out (k + 1)
        rw [HK.out] at p1 p2 p3
        obtain ⟨a, haa⟩ : ∃ a, a = l[k] := ⟨_, rfl⟩
        rw [← haa] at c0 c1 c2 c3 c4 HK ha p1 p2 p3
        obtain ⟨D, hD⟩ : ∃ D, D = actsD (l.take k) (newD (M - 2)) := ⟨_, rfl⟩
        rw [← hD] at hp HK o1 o2 o3 p1 p2 p3
        obtain ⟨D', hD'⟩ : ∃ D', D' = actD a D := ⟨_, rfl⟩
        obtain ⟨E, hE⟩ : ∃ E, E = actE a D := ⟨_, rfl⟩
        have cP : ∀ W, Ext [] wr W → Calls Try.prog 34 #[.pointer (some ⟨b, 0, none⟩), a.val] W fun e w' => e = .returned (.int .i64 E) ∧ PairAt w2 w' b m D' D ∧ ∀ q, wr.heap.size ≤ q → ∀ o, W.heap[q]? = some o → w'.heap[q]? = some o := fun W hW => by rw [hE, hD']; exact pair_play2 hp hW a ha o1 o3
        have cD : ∀ W, PairAt w2 W b m D' D → Calls Try.prog 35 #[.pointer (some ⟨m, 0, none⟩), a.val] W fun e w' => e = .returned (.int .i64 E) ∧ PairAt w2 w' b m D' D' := fun W hW => by
          have := pair_do hW a ha o1 o2 o3
          rw [← hE, ← hD'] at this
          exact this
        rw [← hD'] at p1 p3 HK
        have cS : ∀ W, PairAt w2 W b m D' D' → Calls Try.prog 36 #[.pointer (some ⟨b, 0, none⟩), .pointer (some ⟨m, 0, none⟩)] W fun e w' => e = .returned (.bool true) ∧ PairAt w2 w' b m D' D' := fun W hW => (pair_same hW p1 p3).mono fun e w' ⟨h1, h2⟩ => ⟨h1, hW.keep h2⟩
        clear haa hD hD' hE hc p1 p2 p3 o1 o2 o3 HA ha hx
        obtain ⟨ak, ab, an, sx, ac⟩ := a
        unfold Ac.val at cP cD
        simp only at c0 c1 c2 c3 c4 cP cD
        go_wp2_with fail
        obtain ⟨W, hW⟩ : ∃ W, W = wr.alloc (.cells #[.int .i64 ak, .int .i64 ab, .int .i64 an, .string ⟨sx.toArray⟩, .int .u8 (ac.toNat : Int)] 59) := ⟨_, rfl⟩
        obtain ⟨r, hr⟩ : ∃ r, r = wr.heap.size := ⟨_, rfl⟩
        have hxW : Ext [] wr W := by rw [hW]; exact (Ext.refl _ _).alloc _
        have hQ : Blk W r 59 [.int .i64 ak, .int .i64 ab, .int .i64 an, str sx, .int .u8 (ac.toNat : Int)] := by rw [hW]; exact Blk.newg (C := #[.int .i64 ak, .int .i64 ab, .int .i64 an, .string ⟨sx.toArray⟩, .int .u8 (ac.toNat : Int)]) hr.symm
        have hrr : wr.heap.size ≤ r := by omega
        rw [← hW, ← hr]
        clear hW hr c0 c1 c2 c3 c4 hp
        have q0 := hQ.c 0
        have q1 := hQ.c 1
        have q2 := hQ.c 2
        have q3 := hQ.c 3
        have q4 := hQ.c 4
        simp only [List.getElem?_cons_zero, List.getElem?_cons_succ] at q0 q1 q2 q3 q4
        have cQ : Hid (∀ w' : World, (∀ q, wr.heap.size ≤ q → ∀ o, W.drew.heap[q]? = some o → w'.heap[q]? = some o) → w'.cell? ⟨r, 0, none⟩ = some (.int .i64 ak) ∧ w'.cell? ⟨r, 1, none⟩ = some (.int .i64 ab) ∧ w'.cell? ⟨r, 2, none⟩ = some (.int .i64 an) ∧ w'.cell? ⟨r, 3, none⟩ = some (str sx) ∧ w'.cell? ⟨r, 4, none⟩ = some (.int .u8 (ac.toNat : Int))) := by
          intro w' h
          have hB : Blk w' r 59 [.int .i64 ak, .int .i64 ab, .int .i64 an, str sx, .int .u8 (ac.toNat : Int)] := h r hrr _ hQ
          exact ⟨hB.c 0, hB.c 1, hB.c 2, hB.c 3, hB.c 4⟩
        clear hQ hrr
        go_region_with
          (first
            | ((go_at_call 34); (with_reducible refine (cP _ ?_).mono ?_); (exact hxW.drew); rintro e w5 ⟨rfl, hp5, hk5⟩; obtain ⟨d0, d1, d2, d3, d4⟩ := cQ.out w5 hk5)
            | ((go_at_call 35); (with_reducible refine (cD _ ?_).mono ?_); (exact hp5); rintro e w6 ⟨rfl, hp6⟩)
            | ((go_at_call 36); (with_reducible refine (cS _ ?_).mono ?_); (exact hp6); rintro e w7 ⟨rfl, hp7⟩))
        all_goals (
          clear cQ cP cD cS q0 q1 q2 q3 q4 d0 d1 d2 d3 d4
          rw [← HK.out] at hp7
          have HP : Hid (PairAt w2 w7 b m (actsD (l.take (k + 1)) (newD (M - 2))) (actsD (l.take (k + 1)) (newD (M - 2)))) := hp7
          clear hp7 hp5 hp6 hk5 HK
          go_wp2
          go_roundw
          case rel => exact ⟨k + 1, by omega, by go_num, HP.out⟩
          case measure => simp [intOf]; omega)
      · have hx := hxw.then0 hp.ext
        clear hp hR hl HA
        go_wp2_with fail
        refine (new_n 5000 wr _ (Ext.refl _ _)).mono ?_
        rintro e w5 ⟨b2, rfl, hd, -⟩
        have e5 : (newD 5000).size = 4096 := rfl
        have cZ := size_n b2 _ wr w5 hd
        rw [e5] at cZ
        go_wp2_with fail
        refine cZ.mono ?_
        rintro e w6 ⟨rfl, rfl⟩
        have hz := hx.then0 hd.ext
        clear hd cZ
        go_wp2
        go_ret
        exact ⟨rfl, hz⟩
  · have hf' : fewA l = false := by simpa using hf
    rw [hf']
    clear hf hf'
    go_wp2
    go_ret
    exact ⟨rfl, hxw⟩
end Go.Proofs.Ytpnfgkgloioddaa
