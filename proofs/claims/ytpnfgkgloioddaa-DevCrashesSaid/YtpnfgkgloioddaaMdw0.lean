/- The model's Do: a write. -/
import Derived.Test.YtpnfgkgloioddaaMdo
namespace Go.Proofs.Ytpnfgkgloioddaa
open Go.RowKit
set_option linter.unusedVariables false
set_option linter.unusedSimpArgs false
attribute [local go_sem high] run_max2 run_min2

set_option maxRecDepth 100000 in
set_option maxHeartbeats 20000000 in
theorem mdo_write0 (m gs gg gh : Nat) (vn : Value) (n : Nat) (D : Dv) (a : Ac) (w : World) (h : MdIn w m gs gg gh vn n D) (hk : acK a = 0) (hok : DvOk D) (hin : InR D) (hlen : D.since.length ≤ 1000000) (ha : WfAc a) :
    Calls Try.prog 35 #[.pointer (some ⟨m, 0, none⟩), a.val] w fun e w' => e = .returned (.int .i64 (actE a D)) ∧ MdTo w w' m gs gg gh vn n (actD a D) := by
  have HE : Hid (actE a D = writeE a.block a.data D) := by show _ = _; simp [actE, hk]
  have HD : Hid (actD a D = writeD a.block a.data D) := by show _ = _; simp [actD, hk]
  have hsz := h.size
  have hf0 := hok.fall0
  have hf1 := hok.fall
  have hq := acK_eq a
  rw [hk] at hq
  obtain ⟨-, -, -, hal2⟩ := ha
  obtain ⟨T, hT⟩ : ∃ T, T = turnD D := ⟨_, rfl⟩
  have hTs : T.since = D.since ∧ T.size = D.size := by rw [hT]; exact ⟨(turnD_same D).2.1, (turnD_same D).1⟩
  have hcs : (D.down = true ∨ (D.down = false ∧ D.fall = 0)) ∨ (D.down = false ∧ D.fall < 0) ∨ (D.down = false ∧ 0 < D.fall) := by
    cases hdn : D.down
    · rcases (show D.fall = 0 ∨ D.fall < 0 ∨ 0 < D.fall by omega) with h | h | h
      · exact .inl (.inr ⟨rfl, h⟩)
      · exact .inr (.inl ⟨rfl, h⟩)
      · exact .inr (.inr ⟨rfl, h⟩)
    · exact .inl (.inl rfl)
  have ht5 : (D.down = true ∨ (D.down = false ∧ D.fall = 0)) → turnE D = 5 ∧ turnD D = { D with down := true } := by
    rintro (h1 | ⟨h1, h2⟩)
    · refine ⟨by rw [turnE, if_pos (.inl h1)], ?_⟩
      rw [turnD, if_pos h1]
      obtain ⟨_, _, _, _, _, _, dn⟩ := D
      simp only at h1
      subst h1
      rfl
    · exact ⟨by rw [turnE, if_pos (.inr h2)], by rw [turnD, if_neg (by rw [h1]; decide), if_pos h2]⟩
  have ht0 : D.down = false ∧ D.fall < 0 → turnE D = 0 ∧ turnD D = D := fun ⟨h1, h2⟩ => ⟨by rw [turnE, if_neg (by rw [h1]; simp; omega)], by rw [turnD, if_neg (by rw [h1]; decide), if_neg (by omega), if_neg (by omega)]⟩
  have ht1 : D.down = false ∧ 0 < D.fall → turnE D = 0 ∧ turnD D = { D with fall := D.fall - 1 } := fun ⟨h1, h2⟩ => ⟨by rw [turnE, if_neg (by rw [h1]; simp; omega)], by rw [turnD, if_neg (by rw [h1]; decide), if_neg (by omega), if_pos h2]⟩
  obtain ⟨k, b, x, s, c⟩ := a
  unfold Ac.val
  simp only at hq HD HE hal2 ⊢
  have hq2 : (IntKind.u64.wrap k).tmod 6 = 0 := hq
  clear hk hq
  obtain ⟨c0, c1, c2, c3, c4, c5, c6⟩ := h.c
  obtain ⟨hml, hsl, hgl, hhl, hvl⟩ := h.lts
  have hmf := h.blk.f
  have hal : Ext [] w (w.alloc (.cells #[.int .i64 k, .int .i64 b, .int .i64 x, .string ⟨s.toArray⟩, .int .u8 (c.toNat : Int)] 59)) := (Ext.refl _ _).alloc _
  have hqn : ∀ w2 : World, w2.heap.size = w.heap.size → Blk (w2.alloc (.cells #[.int .i64 k, .int .i64 b, .int .i64 x, .string ⟨s.toArray⟩, .int .u8 (c.toNat : Int)] 59)) w.heap.size 59 [.int .i64 k, .int .i64 b, .int .i64 x, str s, .int .u8 (c.toNat : Int)] := fun w2 h2 => Blk.newg (C := #[.int .i64 k, .int .i64 b, .int .i64 x, .string ⟨s.toArray⟩, .int .u8 (c.toNat : Int)]) h2
  have hqm : w.heap.size ≠ m ∧ w.heap.size ≠ gs ∧ w.heap.size ≠ gg ∧ w.heap.size ≠ gh ∧ ∀ z ∈ vblocks vn, z ≠ w.heap.size := ⟨by omega, by omega, by omega, by omega, fun z hz => by have := hvl z hz; omega⟩
  rcases hcs with hc | hc
  · obtain ⟨t1, t2⟩ := ht5 hc
    have HF : Hid (writeD b s D = { D with down := true }) := by show _ = _; rw [writeD, writeE, if_pos t1, if_neg (by decide), t2]
    have HT5 : Hid (writeE b s D = 5) := by show _ = _; rw [writeE, if_pos t1]
    clear t1 t2 ht5 ht0 ht1 hT hTs hf0 hf1 hsz hok hin hlen
    have hM := h.setDown
    rcases hc with hd | ⟨hd, hz⟩
    · rw [hd] at c6
      clear hd
      go_enter Try.func35, Try.ntmps35
      go_wp2
      go_ret
      rw [HE.out, HD.out, HF.out, HT5.out]
      exact ⟨rfl, MdTo.of ((ext_m _ _).alloc _) (hM.keep0 ((Ext.refl _ _).alloc _))⟩
    · rw [hd] at c6
      rw [hz] at c5
      clear hd hz
      go_enter Try.func35, Try.ntmps35
      go_wp2
      go_ret
      rw [HE.out, HD.out, HF.out, HT5.out]
      exact ⟨rfl, MdTo.of ((ext_m _ _).alloc _) (hM.keep0 ((Ext.refl _ _).alloc _))⟩
  · have hdn : D.down = false := hc.elim (fun h => h.1) (fun h => h.1)
    have hte : turnE D = 0 := hc.elim (fun h => (ht0 h).1) (fun h => (ht1 h).1)
    have HF : Hid (writeE b s D = (if b < 0 ∨ T.size ≤ b then 7 else if 512 < s.length then 3 else 0) ∧ writeD b s D = if (if b < 0 ∨ T.size ≤ b then (7 : Int) else if 512 < s.length then 3 else 0) = 0 then addD b s T else T) := by
      have e : writeE b s D = (if b < 0 ∨ T.size ≤ b then 7 else if 512 < s.length then 3 else 0) := by rw [writeE, hte, if_neg (by decide), hTs.2]
      exact ⟨e, by rw [writeD, e, ← hT]⟩
    have hTn : T.size = n := by rw [hTs.2]; exact hsz
    have hinT : ∀ c ∈ T.since, 0 ≤ c.1 ∧ c.1 < (n : Int) := by
      intro c hc
      rw [hTs.1] at hc
      have := hin c hc
      omega
    have hlenT : T.since.length ≤ 1000000 := by rw [hTs.1]; exact hlen
    rw [hdn] at c6
    clear hte ht5 hin hlen hdn
    obtain ⟨a0, cap0, hvv⟩ := Rd.isSlice h.since.rd
    have c2' := c2
    rw [hvv] at c2'
    obtain ⟨N, hN⟩ : ∃ N, N = D.since.length := ⟨_, rfl⟩
    have hNT : T.since.length = N := by rw [hTs.1, hN]
    rw [← hN] at c2' hvv
    obtain ⟨fl, hfl⟩ : ∃ f, f = D.fall := ⟨_, rfl⟩
    rw [← hfl] at c5 hf0 hf1
    rcases hc with hc | hc
    · obtain ⟨_, t2⟩ := ht0 hc
      have e0 : (fl == 0) = false := by have := hc.2; simp; omega
      have hngt : ¬ 0 < fl := by have := hc.2; omega
      have hX0 : Ext (mdF m gs gg gh vn) w (w.alloc (.cells #[.int .i64 k, .int .i64 b, .int .i64 x, .string ⟨s.toArray⟩, .int .u8 (c.toNat : Int)] 59)) := hal.mono (by simp)
      have hM0 : MdIn (w.alloc (.cells #[.int .i64 k, .int .i64 b, .int .i64 x, .string ⟨s.toArray⟩, .int .u8 (c.toNat : Int)] 59)) m gs gg gh vn n T := by rw [hT, t2]; exact h.keep0 hal
      have hQ0 := hqn w rfl
      clear t2 ht0 ht1 hT hc hfl c2 hTs hsz h hN hok hal hqn
      go_enter Try.func35, Try.ntmps35
      go_wp2_with fail
      obtain ⟨W, hW⟩ : ∃ W, W = w.alloc (.cells #[.int .i64 k, .int .i64 b, .int .i64 x, .string ⟨s.toArray⟩, .int .u8 (c.toNat : Int)] 59) := ⟨_, rfl⟩
      rw [← hW] at hX0 hM0 hQ0
      rw [← hW]
      clear hW
      obtain ⟨q, hq⟩ : ∃ q, q = w.heap.size := ⟨_, rfl⟩
      rw [← hq] at hQ0 hqm
      rw [← hq]
      clear c0 c1 c2' c3 c4 c5 c6 hml hsl hgl hhl hvl hmf hq e0 hngt
      subst hvv
      have hq0 := hQ0.c 0
      have hq1 := hQ0.c 1
      have hq3 := hQ0.c 3
      have hql := hQ0.lt
      simp only [List.getElem?_cons_zero, List.getElem?_cons_succ] at hq0 hq1 hq3
      have cI := min_any m gs gg gh _ n T b W hM0
      by_cases hr : 0 ≤ b ∧ b < (n : Int)
      · have e1 : decide (0 ≤ b ∧ b < (n : Int)) = true := by simpa using hr
        rw [e1] at cI
        refine cI.mono ?_
        rintro e w1 ⟨rfl, rfl⟩
        clear cI e1
        by_cases hl : 512 < s.length
        · have hz : (if b < 0 ∨ T.size ≤ b then (7 : Int) else if 512 < s.length then 3 else 0) = 3 := by rw [if_neg (by omega), if_pos hl]
          have hF := HF.out
          rw [hz, if_neg (by decide)] at hF
          have HFF : Hid (writeE b s D = 3 ∧ writeD b s D = T) := hF
          clear hF HF hz hTn
          go_wp2
          go_ret
          rw [HE.out, HD.out, HFF.out.1, HFF.out.2]
          exact ⟨rfl, MdTo.of hX0 hM0⟩
        · have hz : (if b < 0 ∨ T.size ≤ b then (7 : Int) else if 512 < s.length then 3 else 0) = 0 := by rw [if_neg (by omega), if_neg hl]
          have hF := HF.out
          rw [hz, if_pos rfl] at hF
          have HFF : Hid (writeE b s D = 0 ∧ writeD b s D = addD b s T) := hF
          clear hF HF hz hTn
          obtain ⟨i, rfl⟩ : ∃ i : Nat, b = (i : Int) := ⟨b.toNat, by omega⟩
          have hi : i < n := by omega
          obtain ⟨c0, c1, c2, c3, c4, c5, c6⟩ := hM0.c
          obtain ⟨hml, hsl, hgl, hhl, hvl⟩ := hM0.lts
          have hmf := hM0.blk.f
          have hgf := hM0.gone.f i
          have g0 : W.cell? ⟨gg, i, none⟩ = some (.bool (T.lost i)) := by rw [hM0.gone.c i, row_get _ _ _ hi]
          have hM1 := hM0.keep0 (((Ext.refl [] W).drew).alloc (.cells #[.int .i64 (i : Int), .string ⟨s.toArray⟩] 114))
          have hs1 : (W.drew.alloc (.cells #[.int .i64 (i : Int), .string ⟨s.toArray⟩] 114)).heap.size = W.heap.size + 1 := by simp
          have hxa : Ext [] W (W.drew.alloc (.cells #[.int .i64 (i : Int), .string ⟨s.toArray⟩] 114)) := ((Ext.refl [] W).drew).alloc _
          have hmv : m ∉ vblocks (.slice a0 N cap0) := fun hm => (hM0.sep m hm).1 rfl
          go_wp2_with fail
          go_region_law (first
            | (refine step_append rfl _ _ _ rfl 114 (.agg #[.int .i64 0, .string ByteArray.empty]) 2 24 el_write (.slice a0 N cap0) T.since.length (chgs T.since) rfl hM1.since (.slice (some ⟨W.heap.size, 0, none⟩) 1 1) 1 (chgs [((i : Int), s)]) rfl ?_ (chgs_cells _) (by omega) (by unfold maxLen; omega) ?_; (exact Rd.wr1 ((i : Int), s) rfl); intro v' w' ho' hx' hv'; obtain ⟨a2, cap2, hvs⟩ := Rd.isSlice (Own.rd ho'); subst hvs; have hm2 : w'.cell? ⟨m, 2, none⟩ = some (.slice a0 N cap0) := hx'.cell hmv hM1.c.2.2.1; have hmf2 : w'.frozen? ⟨m, 2, none⟩ = false := (hx'.frozen (p := ⟨m, 2, none⟩) hmv hM1.lts.1).trans (hM1.blk.f 2)))
          all_goals (
            obtain ⟨hM2, hv2, hX2⟩ := hM1.app ((i : Int), s) hx' ho' hv'
            rw [hNT] at hM2 hv2 hX2
            have hX3 : Ext (mdF m gs gg gh (.slice a0 N cap0)) W (w'.setCell ⟨m, 2, none⟩ (.slice a2 (N + 1) cap2)) := (hxa.mono (by simp)).trans hX2 (fun z hz => by
              rcases List.mem_cons.1 hz with rfl | hz
              · exact .inl mdF_mem.1.1
              · exact .inl (mdF_mem.2 z hz))
            have hv3 : ∀ z ∈ vblocks (.slice a2 (N + 1) cap2), z ∈ vblocks (.slice a0 N cap0) ∨ w.heap.size ≤ z := by
              intro z hz
              have h1 := hX0.size
              rcases hv2 z hz with h | h
              · exact .inl h
              · exact .inr (by omega)
            have hqF : q ∉ mdF m gs gg gh (.slice a0 N cap0) := by
              intro hm
              unfold mdF at hm
              simp only [List.mem_cons] at hm
              rcases hm with h | h | h | h | h
              · exact hqm.1 h
              · exact hqm.2.1 h
              · exact hqm.2.2.1 h
              · exact hqm.2.2.2.1 h
              · exact hqm.2.2.2.2 q h rfl
            have hXf : Ext (mdF m gs gg gh (.slice a0 N cap0)) w (w'.setCell ⟨m, 2, none⟩ (.slice a2 (N + 1) cap2)) := hX0.trans hX3 (fun z hz => .inl hz)
            have d1 := hX3.cell (p := ⟨q, 1, none⟩) hqF hq1
            have dql : q < (w'.setCell ⟨m, 2, none⟩ (.slice a2 (N + 1) cap2)).heap.size := Nat.lt_of_lt_of_le hql hX3.size
            obtain ⟨W2, hW2⟩ : ∃ X, X = w'.setCell ⟨m, 2, none⟩ (.slice a2 (N + 1) cap2) := ⟨_, rfl⟩
            rw [← hW2] at hM2 hXf d1 dql
            rw [← hW2]
            have d3 := hM2.c.2.2.2.1
            have dgf := hM2.gone.f i
            have dg : W2.cell? ⟨gg, i, none⟩ = some (.bool (T.lost i)) := by rw [hM2.gone.c i, row_get _ _ _ hi]
            have dml := hM2.lts.1
            have dgl := hM2.lts.2.2.1
            clear hW2 hX2 hX3 hv2 ho' hx' hv' hm2 hmf2 hM1 hxa hs1 hmv c0 c1 c2 c3 c4 c5 c6 hml hsl hgl hhl hvl hmf hgf g0 hX0 hM0 hQ0 hq0 hq1 hq3 hql hqF hqm
            go_wp2
            go_region
            all_goals (
              go_wp2
              go_ret
              rw [HE.out, HD.out, HFF.out.1, HFF.out.2]
              exact ⟨rfl, (hXf.setCell (p := ⟨gg, i, none⟩) (.inl mdF_mem.1.2.2.1) _).drew, _, (hM2.setGone i false).keep0 ((Ext.refl _ _).drew), hv3⟩))
      · have e1 : decide (0 ≤ b ∧ b < (n : Int)) = false := by simpa using hr
        rw [e1] at cI
        have hz : (if b < 0 ∨ T.size ≤ b then (7 : Int) else if 512 < s.length then 3 else 0) = 7 := by rw [if_pos (by omega)]
        have hF := HF.out
        rw [hz, if_neg (by decide)] at hF
        have HFF : Hid (writeE b s D = 7 ∧ writeD b s D = T) := hF
        clear hF HF hz hTn e1 hr
        refine cI.mono ?_
        rintro e w1 ⟨rfl, rfl⟩
        clear cI
        go_wp2
        go_ret
        rw [HE.out, HD.out, HFF.out.1, HFF.out.2]
        exact ⟨rfl, MdTo.of hX0 hM0⟩
    · obtain ⟨_, t2⟩ := ht1 hc
      have e0 : (fl == 0) = false := by have := hc.2; simp; omega
      have hgt : 0 < fl := by have := hc.2; omega
      have hX0 : Ext (mdF m gs gg gh vn) w ((w.setCell ⟨m, 5, none⟩ (.int .i64 (fl - 1))).alloc (.cells #[.int .i64 k, .int .i64 b, .int .i64 x, .string ⟨s.toArray⟩, .int .u8 (c.toNat : Int)] 59)) := (ext_m _ _).alloc _
      have hM0 : MdIn ((w.setCell ⟨m, 5, none⟩ (.int .i64 (fl - 1))).alloc (.cells #[.int .i64 k, .int .i64 b, .int .i64 x, .string ⟨s.toArray⟩, .int .u8 (c.toNat : Int)] 59)) m gs gg gh vn n T := by rw [hT, t2, ← hfl]; exact (h.setFall _).keep0 ((Ext.refl _ _).alloc _)
      have hQ0 := hqn (w.setCell ⟨m, 5, none⟩ (.int .i64 (fl - 1))) (by simp)
      clear t2 ht0 ht1 hT hc hfl c2 hTs hsz h hN hok hal hqn
      go_enter Try.func35, Try.ntmps35
      go_wp2_with fail
      obtain ⟨W, hW⟩ : ∃ W, W = (w.setCell ⟨m, 5, none⟩ (.int .i64 (fl - 1))).alloc (.cells #[.int .i64 k, .int .i64 b, .int .i64 x, .string ⟨s.toArray⟩, .int .u8 (c.toNat : Int)] 59) := ⟨_, rfl⟩
      rw [← hW] at hX0 hM0 hQ0
      rw [← hW]
      clear hW
      obtain ⟨q, hq⟩ : ∃ q, q = w.heap.size := ⟨_, rfl⟩
      rw [← hq] at hQ0 hqm
      rw [← hq]
      clear c0 c1 c2' c3 c4 c5 c6 hml hsl hgl hhl hvl hmf hq e0 hgt
      subst hvv
      have hq0 := hQ0.c 0
      have hq1 := hQ0.c 1
      have hq3 := hQ0.c 3
      have hql := hQ0.lt
      simp only [List.getElem?_cons_zero, List.getElem?_cons_succ] at hq0 hq1 hq3
      have cI := min_any m gs gg gh _ n T b W hM0
      by_cases hr : 0 ≤ b ∧ b < (n : Int)
      · have e1 : decide (0 ≤ b ∧ b < (n : Int)) = true := by simpa using hr
        rw [e1] at cI
        refine cI.mono ?_
        rintro e w1 ⟨rfl, rfl⟩
        clear cI e1
        by_cases hl : 512 < s.length
        · have hz : (if b < 0 ∨ T.size ≤ b then (7 : Int) else if 512 < s.length then 3 else 0) = 3 := by rw [if_neg (by omega), if_pos hl]
          have hF := HF.out
          rw [hz, if_neg (by decide)] at hF
          have HFF : Hid (writeE b s D = 3 ∧ writeD b s D = T) := hF
          clear hF HF hz hTn
          go_wp2
          go_ret
          rw [HE.out, HD.out, HFF.out.1, HFF.out.2]
          exact ⟨rfl, MdTo.of hX0 hM0⟩
        · have hz : (if b < 0 ∨ T.size ≤ b then (7 : Int) else if 512 < s.length then 3 else 0) = 0 := by rw [if_neg (by omega), if_neg hl]
          have hF := HF.out
          rw [hz, if_pos rfl] at hF
          have HFF : Hid (writeE b s D = 0 ∧ writeD b s D = addD b s T) := hF
          clear hF HF hz hTn
          obtain ⟨i, rfl⟩ : ∃ i : Nat, b = (i : Int) := ⟨b.toNat, by omega⟩
          have hi : i < n := by omega
          obtain ⟨c0, c1, c2, c3, c4, c5, c6⟩ := hM0.c
          obtain ⟨hml, hsl, hgl, hhl, hvl⟩ := hM0.lts
          have hmf := hM0.blk.f
          have hgf := hM0.gone.f i
          have g0 : W.cell? ⟨gg, i, none⟩ = some (.bool (T.lost i)) := by rw [hM0.gone.c i, row_get _ _ _ hi]
          have hM1 := hM0.keep0 (((Ext.refl [] W).drew).alloc (.cells #[.int .i64 (i : Int), .string ⟨s.toArray⟩] 114))
          have hs1 : (W.drew.alloc (.cells #[.int .i64 (i : Int), .string ⟨s.toArray⟩] 114)).heap.size = W.heap.size + 1 := by simp
          have hxa : Ext [] W (W.drew.alloc (.cells #[.int .i64 (i : Int), .string ⟨s.toArray⟩] 114)) := ((Ext.refl [] W).drew).alloc _
          have hmv : m ∉ vblocks (.slice a0 N cap0) := fun hm => (hM0.sep m hm).1 rfl
          go_wp2_with fail
          go_region_law (first
            | (refine step_append rfl _ _ _ rfl 114 (.agg #[.int .i64 0, .string ByteArray.empty]) 2 24 el_write (.slice a0 N cap0) T.since.length (chgs T.since) rfl hM1.since (.slice (some ⟨W.heap.size, 0, none⟩) 1 1) 1 (chgs [((i : Int), s)]) rfl ?_ (chgs_cells _) (by omega) (by unfold maxLen; omega) ?_; (exact Rd.wr1 ((i : Int), s) rfl); intro v' w' ho' hx' hv'; obtain ⟨a2, cap2, hvs⟩ := Rd.isSlice (Own.rd ho'); subst hvs; have hm2 : w'.cell? ⟨m, 2, none⟩ = some (.slice a0 N cap0) := hx'.cell hmv hM1.c.2.2.1; have hmf2 : w'.frozen? ⟨m, 2, none⟩ = false := (hx'.frozen (p := ⟨m, 2, none⟩) hmv hM1.lts.1).trans (hM1.blk.f 2)))
          all_goals (
            obtain ⟨hM2, hv2, hX2⟩ := hM1.app ((i : Int), s) hx' ho' hv'
            rw [hNT] at hM2 hv2 hX2
            have hX3 : Ext (mdF m gs gg gh (.slice a0 N cap0)) W (w'.setCell ⟨m, 2, none⟩ (.slice a2 (N + 1) cap2)) := (hxa.mono (by simp)).trans hX2 (fun z hz => by
              rcases List.mem_cons.1 hz with rfl | hz
              · exact .inl mdF_mem.1.1
              · exact .inl (mdF_mem.2 z hz))
            have hv3 : ∀ z ∈ vblocks (.slice a2 (N + 1) cap2), z ∈ vblocks (.slice a0 N cap0) ∨ w.heap.size ≤ z := by
              intro z hz
              have h1 := hX0.size
              rcases hv2 z hz with h | h
              · exact .inl h
              · exact .inr (by omega)
            have hqF : q ∉ mdF m gs gg gh (.slice a0 N cap0) := by
              intro hm
              unfold mdF at hm
              simp only [List.mem_cons] at hm
              rcases hm with h | h | h | h | h
              · exact hqm.1 h
              · exact hqm.2.1 h
              · exact hqm.2.2.1 h
              · exact hqm.2.2.2.1 h
              · exact hqm.2.2.2.2 q h rfl
            have hXf : Ext (mdF m gs gg gh (.slice a0 N cap0)) w (w'.setCell ⟨m, 2, none⟩ (.slice a2 (N + 1) cap2)) := hX0.trans hX3 (fun z hz => .inl hz)
            have d1 := hX3.cell (p := ⟨q, 1, none⟩) hqF hq1
            have dql : q < (w'.setCell ⟨m, 2, none⟩ (.slice a2 (N + 1) cap2)).heap.size := Nat.lt_of_lt_of_le hql hX3.size
            obtain ⟨W2, hW2⟩ : ∃ X, X = w'.setCell ⟨m, 2, none⟩ (.slice a2 (N + 1) cap2) := ⟨_, rfl⟩
            rw [← hW2] at hM2 hXf d1 dql
            rw [← hW2]
            have d3 := hM2.c.2.2.2.1
            have dgf := hM2.gone.f i
            have dg : W2.cell? ⟨gg, i, none⟩ = some (.bool (T.lost i)) := by rw [hM2.gone.c i, row_get _ _ _ hi]
            have dml := hM2.lts.1
            have dgl := hM2.lts.2.2.1
            clear hW2 hX2 hX3 hv2 ho' hx' hv' hm2 hmf2 hM1 hxa hs1 hmv c0 c1 c2 c3 c4 c5 c6 hml hsl hgl hhl hvl hmf hgf g0 hX0 hM0 hQ0 hq0 hq1 hq3 hql hqF hqm
            go_wp2
            go_region
            all_goals (
              go_wp2
              go_ret
              rw [HE.out, HD.out, HFF.out.1, HFF.out.2]
              exact ⟨rfl, (hXf.setCell (p := ⟨gg, i, none⟩) (.inl mdF_mem.1.2.2.1) _).drew, _, (hM2.setGone i false).keep0 ((Ext.refl _ _).drew), hv3⟩))
      · have e1 : decide (0 ≤ b ∧ b < (n : Int)) = false := by simpa using hr
        rw [e1] at cI
        have hz : (if b < 0 ∨ T.size ≤ b then (7 : Int) else if 512 < s.length then 3 else 0) = 7 := by rw [if_pos (by omega)]
        have hF := HF.out
        rw [hz, if_neg (by decide)] at hF
        have HFF : Hid (writeE b s D = 7 ∧ writeD b s D = T) := hF
        clear hF HF hz hTn e1 hr
        refine cI.mono ?_
        rintro e w1 ⟨rfl, rfl⟩
        clear cI
        go_wp2
        go_ret
        rw [HE.out, HD.out, HFF.out.1, HFF.out.2]
        exact ⟨rfl, MdTo.of hX0 hM0⟩
end Go.Proofs.Ytpnfgkgloioddaa
