/- Package plog: a Read that finds its entry good, or none, turns nothing. -/
import Derived.Test.YtmjgbkepngeckaaPq5
namespace Go.Proofs.Ytmjgbkepngeckaa
open Go.RowKit
set_option linter.unusedVariables false
set_option linter.unusedSimpArgs false

set_option maxRecDepth 100000 in
set_option maxHeartbeats 12800000 in
theorem read_g {w0 w : World} {q b mb : Nat} {tv : Value} {D : Dv} {L : Lg} {n : Int} {V : Int → Sl} {s : Nat} {O : List Nat} (h : LgAt w0 w q b mb tv D L n V s O) (i : Int) (hgood : i < L.first ∨ L.last < i ∨ L.good V i) :
    Calls Try.prog 18 #[.pointer (some ⟨q, 0, none⟩), .int .i64 i] w fun e w' => e = .returned (.tuple #[(L.readA V i).1.val, .int .i64 (L.readA V i).2]) ∧ Ext [] w w' := by
  have HGd := Hid.of hgood
  clear hgood
  have HL := Hid.of (fun w' (hx : Ext [] w w') => h.keep hx)
  have h1 := h.ok.first
  have h2 := h.ok.firstb
  have h3 := h.ok.len
  have h4 := h.ok.fit
  have h5 := h.ok.base
  have h6 := h.ok.big
  have ht := Lg.term_rng h.ok i
  obtain ⟨E, hE⟩ : ∃ E, E = w.heap.size := ⟨_, rfl⟩
  obtain ⟨W, hW⟩ : ∃ W, W = w.alloc (.cells #[.int .i64 0, .int .i64 0, .string ⟨#[]⟩] 37) := ⟨_, rfl⟩
  have HE : Hid (Blk W E 37 Ent.zero.cells) := Hid.of (by rw [hE, hW]; exact Ent.blk w)
  have HX : Hid (Ext [] w W) := Hid.of (by rw [hW]; exact (Ext.refl _ _).alloc _)
  have hN : w.heap.size ≤ E := by omega
  have c3 := (HL.out W HX.out).blk.cells.2.2.2.1
  have cl := last_o W (HL.out W HX.out).blk (HL.out W HX.out).ok (by obtain ⟨a, c, e⟩ := Rd.isSlice (HL.out W HX.out).terms.rd; exact ⟨a, c, e⟩)
  have hqE : q ≠ E := by have := Blk.lt h.blk; omega
  have hmE : mb ≠ E := by have := h.hurt.lt; omega
  have htE : E ∉ vblocks tv := fun hm => by have := h.terms.lt _ hm; omega
  have hOE : ∀ z ∈ O, z ≠ E := fun z hz => by have := h.dev.lt z (by simp [hz]); omega
  obtain ⟨A, hAA⟩ : ∃ A, A = L.readA V i := ⟨_, rfl⟩
  rw [← hAA]
  have HAA := Hid.of hAA
  clear hAA
  go_enter Try.func18, Try.ntmps18
  go_upto_region 1 with fail
  rw [← hE, ← hW]
  clear hE hW h
  by_cases hi1 : i < L.first
  · have HA : Hid (A = (Ent.zero, 0)) := Hid.of (HAA.out.trans (if_pos (.inl hi1)))
    have e0 : W.cell? ⟨E, 0, none⟩ = some (.int .i64 0) := Blk.c HE.out 0
    have e1 : W.cell? ⟨E, 1, none⟩ = some (.int .i64 0) := Blk.c HE.out 1
    have e2 : W.cell? ⟨E, 2, none⟩ = some (.string ⟨#[]⟩) := Blk.c HE.out 2
    have z0 := fun j => Blk.f HE.out j
    have hEl := Blk.lt HE.out
    clear cl
    go_wp2
    refine bodyPost_ret (v := .tuple #[.agg #[.int .i64 0, .int .i64 0, .string ⟨#[]⟩], .int .i64 0]) (by simp [results, Try.results18, go_sem, e0, e1, e2, hEl]) rfl ?_
    have hx : Ext [] w (((W.setCell ⟨E, 0, none⟩ (.int .i64 0)).setCell ⟨E, 1, none⟩ (.int .i64 0)).setCell ⟨E, 2, none⟩ (.string ⟨#[]⟩)) := ((HX.out.setCell (.inr hN) _).setCell (.inr hN) _).setCell (.inr hN) _
    exact ⟨by rw [HA.out]; rfl, hx⟩
  · by_cases hi2 : L.last < i
    · have HA : Hid (A = (Ent.zero, 0)) := Hid.of (HAA.out.trans (if_pos (.inr hi2)))
      go_wp2_with (go_at_call 21; (with_reducible refine cl.mono ?_); intro e w1 hq; obtain ⟨rfl, hx1⟩ := QRet.ext hq; have HX1 := Hid.of (HX.out.then0 hx1); have HE1 := Hid.of (Blk.keep HE.out hx1 (by simp)); have e0 : w1.cell? ⟨E, 0, none⟩ = some (.int .i64 0) := Blk.c HE1.out 0; have e1 : w1.cell? ⟨E, 1, none⟩ = some (.int .i64 0) := Blk.c HE1.out 1; have e2 : w1.cell? ⟨E, 2, none⟩ = some (.string ⟨#[]⟩) := Blk.c HE1.out 2; have z0 := fun j => Blk.f HE1.out j; have hEl := Blk.lt HE1.out; clear hq hx1 cl)
      refine bodyPost_ret (v := .tuple #[.agg #[.int .i64 0, .int .i64 0, .string ⟨#[]⟩], .int .i64 0]) (by simp [results, Try.results18, go_sem, e0, e1, e2, hEl]) rfl ?_
      have hx : Ext [] w (((w1.setCell ⟨E, 0, none⟩ (.int .i64 0)).setCell ⟨E, 1, none⟩ (.int .i64 0)).setCell ⟨E, 2, none⟩ (.string ⟨#[]⟩)) := ((HX1.out.setCell (.inr hN) _).setCell (.inr hN) _).setCell (.inr hN) _
      exact ⟨by rw [HA.out]; rfl, hx⟩
    · have hin : ¬ (i < L.first ∨ L.last < i) := by omega
      have HA : Hid (A = if L.good V i then ((L.look V i).1, 1) else if 0 < L.term i then (⟨i, L.term i, []⟩, 2) else (⟨i, 0, []⟩, 3)) := Hid.of (HAA.out.trans (if_neg hin))
      have hi0 : 0 ≤ i := by omega
      have hib : i ≤ 2000000000 := by unfold Lg.last at hi2; omega
      have HG : Hid (L.good V i ↔ (L.look V i).2 = 1 ∧ (L.term i = 0 ∨ (L.look V i).1.term = L.term i)) := Hid.of Iff.rfl
      have ck := fun w' (hx : Ext [] w w') => look_o (HL.out w' hx) i hi0
      have ct := fun w' (hx : Ext [] w w') => term_o w' (HL.out w' hx).blk (HL.out w' hx).ok (HL.out w' hx).terms i
      have hi2' : i ≤ L.last := by omega
      have HNl := Hid.of hi2
      obtain ⟨x, hx⟩ : ∃ x, x = L.look V i := ⟨_, rfl⟩
      rw [← hx] at ck HA HG
      obtain ⟨t, ht'⟩ : ∃ x, x = L.term i := ⟨_, rfl⟩
      rw [← ht'] at ct HA HG ht
      have HT := Hid.of ht'
      obtain ⟨M, hM⟩ : ∃ x, x = L.last := ⟨_, rfl⟩
      rw [← hM] at cl hi2 hi2'
      clear hin hx ht' hM HAA
      obtain ⟨⟨xi, xt, xd⟩, st⟩ := x
      simp only [Ent.val] at ck HG
      go_upto_region 6 with (first
        | (go_at_call 21; (with_reducible refine cl.mono ?_); intro e w1 hq; obtain ⟨rfl, hx1⟩ := QRet.ext hq; have HX1 := Hid.of (HX.out.then0 hx1); have HE1 := Hid.of (Blk.keep HE.out hx1 (by simp)); clear hq hx1 cl)
        | (go_at_call 40; (with_reducible refine (ck _ HX1.out).mono ?_); rintro e w2 ⟨rfl, hx2⟩; have HX2 := Hid.of (HX1.out.then0 hx2); have HE2 := Hid.of (Blk.keep HE1.out hx2 (by simp)); clear hx2 ck))
      obtain ⟨W3, hW3⟩ : ∃ W, W = w2.alloc (.cells #[.int .i64 xi, .int .i64 xt, str xd] 37) := ⟨_, rfl⟩
      have x3 : Ext [] w2 W3 := by rw [hW3]; exact (Ext.refl _ _).alloc _
      have HX3 := Hid.of (HX2.out.then0 x3)
      have HE3 := Hid.of (Blk.keep HE2.out x3 (by simp))
      have HY3 : Hid (Blk W3 w2.heap.size 37 [.int .i64 xi, .int .i64 xt, str xd]) := Hid.of (by rw [hW3]; exact Blk.new w2 37 #[.int .i64 xi, .int .i64 xt, str xd])
      rw [← hW3]
      generalize w2.heap.size = Y at HY3 ⊢
      have y0 : W3.cell? ⟨Y, 0, none⟩ = some (.int .i64 xi) := Blk.c HY3.out 0
      have y1 : W3.cell? ⟨Y, 1, none⟩ = some (.int .i64 xt) := Blk.c HY3.out 1
      have y2 : W3.cell? ⟨Y, 2, none⟩ = some (str xd) := Blk.c HY3.out 2
      have ct3 := fun j => ct (W3.drewN j) (HX3.out.then0 ((Ext.refl _ _).drewN j))
      clear x3 hW3 HX HX1 HX2 HE HE1 HE2
      have HN := Hid.of hN
      have hxt := HY3.out
      obtain ⟨M2, hM2⟩ : ∃ M, M = decide (st = 1 ∧ (t = 0 ∨ xt = t)) := ⟨_, rfl⟩
      have HM2 := Hid.of hM2
      clear hM2 hxt
      go_cut [52] (fun v wx => v = .bool M2 ∧ ∃ j, wx = W3.drewN j)
      case first =>
        by_cases g1 : st = 1
        · by_cases g2 : t = 0
          · obtain rfl : M2 = true := by rw [HM2.out]; simp [g1, g2]
            clear HM2 HA HG
            subst g1
            subst g2
            go_quiet ((go_at_call 33; refine Calls.quiet_of (ct3 _)))
            go_wp2
            go_meet
            exact ⟨rfl, _, rfl⟩
          · have g2b : (t == 0) = false := by simp [g2]
            by_cases g3 : xt = t
            · obtain rfl : M2 = true := by rw [HM2.out]; simp [g1, g3]
              clear HM2 HA HG
              subst g1
              subst g3
              go_quiet ((go_at_call 33; refine Calls.quiet_of (ct3 _)))
              go_wp2
              go_meet
              exact ⟨rfl, _, rfl⟩
            · obtain rfl : M2 = false := by rw [HM2.out]; simp [g2, g3]
              have g3b : (xt == t) = false := by simp [g3]
              clear HM2 HA HG
              subst g1
              go_quiet ((go_at_call 33; refine Calls.quiet_of (ct3 _)))
              go_wp2
              go_meet
              exact ⟨rfl, _, rfl⟩
        · obtain rfl : M2 = false := by rw [HM2.out]; simp [g1]
          have g1b : (st == 1) = false := by simp [g1]
          clear HM2 HA HG
          go_quiet (fail)
          go_wp2
          go_meet
          exact ⟨rfl, _, rfl⟩
      case rest =>
        obtain ⟨rfl, j, hwc⟩ := hcut
        have xw : Ext [] W3 wc := by rw [hwc]; exact (Ext.refl _ _).drewN j
        have HX4 := Hid.of (HX3.out.then0 xw)
        have HE4 := Hid.of (Blk.keep HE3.out xw (by simp))
        have HY4 := Hid.of (Blk.keep HY3.out xw (by simp))
        clear hwc xw y0 y1 y2 HX3 HE3 HY3 ct3 c3
        have e0 : wc.cell? ⟨E, 0, none⟩ = some (.int .i64 0) := Blk.c HE4.out 0
        have e1 : wc.cell? ⟨E, 1, none⟩ = some (.int .i64 0) := Blk.c HE4.out 1
        have e2 : wc.cell? ⟨E, 2, none⟩ = some (.string ⟨#[]⟩) := Blk.c HE4.out 2
        have z0 := fun j => Blk.f HE4.out j
        have hEl := Blk.lt HE4.out
        have hfin : ∀ (W : World) (x t : Int) (d : ByteArray), Ext [] w W → Ext [] w ((((W.setCell ⟨E, 0, none⟩ (.int .i64 x)).setCell ⟨E, 1, none⟩ (.int .i64 t)).setCell ⟨E, 2, none⟩ (.string d))) := fun W x t d hx => ((hx.setCell (.inr HN.out) _).setCell (.inr HN.out) _).setCell (.inr HN.out) _
        have HFin := Hid.of hfin
        clear hfin
        cases M2 with
        | true =>
          have hM2 := of_decide_eq_true HM2.out.symm
          have HA2 : Hid (A = (⟨xi, xt, xd⟩, 1)) := Hid.of (HA.out.trans (if_pos (HG.out.2 hM2)))
          have y0 : wc.cell? ⟨Y, 0, none⟩ = some (.int .i64 xi) := Blk.c HY4.out 0
          have y1 : wc.cell? ⟨Y, 1, none⟩ = some (.int .i64 xt) := Blk.c HY4.out 1
          have y2 : wc.cell? ⟨Y, 2, none⟩ = some (str xd) := Blk.c HY4.out 2
          clear HM2 hM2 HA
          go_wp2
          refine bodyPost_ret (v := .tuple #[.agg #[.int .i64 xi, .int .i64 xt, str xd], .int .i64 1]) (by simp [results, Try.results18, go_sem, e0, e1, e2, hEl]) rfl ?_
          rw [HA2.out]
          exact ⟨rfl, HFin.out _ _ _ _ HX4.out⟩
        | false =>
          have hM2 := of_decide_eq_false HM2.out.symm
          exact absurd (HG.out.1 ((HGd.out.resolve_left (by omega)).resolve_left (by have := HNl.out; omega))) hM2
section
variable {w0 w : World} {q b : Nat} {L : Lg} {n : Int} {V : Int → Sl} {O : List Nat}
theorem LgX.readg (h : LgX w0 w q b L n V O) (i : Int) (hg : i < L.first ∨ L.last < i ∨ L.good V i) : Calls Try.prog 18 #[.pointer (some ⟨q, 0, none⟩), .int .i64 i] w fun e w' => e = .returned (.tuple #[(L.readA V i).1.val, .int .i64 (L.readA V i).2]) ∧ Ext [] w w' := by
  obtain ⟨mb, tv, D, h⟩ := h
  exact read_g h i hg
theorem Solid.good {L : Lg} {V : Int → Sl} {all : List Ent} (h : Solid L V all) (k : Nat) (hk : k < all.length) : L.good V (L.first + k) := by
  have hlk : L.look V (L.first + k) = (all[k], 1) := by rw [h.laid.look k hk]; rfl
  exact ⟨by rw [hlk], .inr (by rw [hlk, h.term k hk])⟩
end
section
variable {w0 w : World} {wq b q : Nat} {first : Int} {va vm : Value} {all : List Ent} {O : List Nat}
theorem St.readg (h : St w0 w wq b q first va vm all O) (k : Nat) (hk : k < all.length) : Calls Try.prog 18 #[.pointer (some ⟨q, 0, none⟩), .int .i64 (first + k)] w fun e w' => e = .returned (.tuple #[all[k].val, .int .i64 1]) ∧ Ext [] w w' := by
  obtain ⟨L, V, h1, h2, e1, h3, h4⟩ := h
  have := h1.log.readg (L.first + k) (.inr (.inr (h2.good k hk)))
  rwa [(h2.read k hk).1, h4] at this
theorem St.readg0 (h : St w0 w wq b q first va vm all O) (i : Int) (hi : i < first ∨ first + all.length ≤ i) : Calls Try.prog 18 #[.pointer (some ⟨q, 0, none⟩), .int .i64 i] w fun e w' => e = .returned (.tuple #[Ent.zero.val, .int .i64 0]) ∧ Ext [] w w' := by
  obtain ⟨L, V, h1, h2, e1, h3, h4⟩ := h
  have hl := h2.last
  have ho : i < L.first ∨ L.last < i := by omega
  have := h1.log.readg i (ho.imp id (fun h => .inl h))
  rwa [(read_out ho).1] at this
end
end Go.Proofs.Ytmjgbkepngeckaa
