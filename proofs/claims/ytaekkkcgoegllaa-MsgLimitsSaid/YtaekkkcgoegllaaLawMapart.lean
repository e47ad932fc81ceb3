/- Law 14, MsgApart. (Printed by wip/gen_mapart.py.) -/
import Derived.Test.YtaekkkcgoegllaaLawMreads
import Derived.Test.YtaekkkcgoegllaaBits
namespace Go.Proofs.Ytaekkkcgoegllaa
open Go.RowKit
set_option linter.unusedVariables false
set_option linter.unusedSimpArgs false

theorem bits_xor_i64_nat (a b : Nat) (ha : a < 281474976710656) (hb : b < 281474976710656) :
    bits .xor .i64 (a : Int) (b : Int) = ((a ^^^ b : Nat) : Int) := by
  have hx : a ^^^ b < 2 ^ 48 := Nat.xor_lt_two_pow (by omega) (by omega)
  have h1 : (BitVec.ofInt 64 (a : Int)).toNat = a := by
    rw [BitVec.ofInt_natCast, BitVec.toNat_ofNat]; exact Nat.mod_eq_of_lt (by omega)
  have h2 : (BitVec.ofInt 64 (b : Int)).toNat = b := by
    rw [BitVec.ofInt_natCast, BitVec.toNat_ofNat]; exact Nat.mod_eq_of_lt (by omega)
  show IntKind.i64.wrap ((BitVec.ofInt 64 (a : Int) ^^^ BitVec.ofInt 64 (b : Int)).toNat : Int) = _
  rw [BitVec.toNat_xor, h1, h2, IntKind.wrap_i64]
  omega
theorem xor1_R48 {n : Int} (h : R48 n) : ∃ y, bits .xor .i64 n 1 = y ∧ R48 y ∧ y ≠ n := by
  obtain ⟨a, rfl⟩ : ∃ a : Nat, n = (a : Int) := ⟨n.toNat, by have := h.1; omega⟩
  have ha : a < 281474976710656 := by have := h.2; omega
  have hx : a ^^^ 1 < 2 ^ 48 := Nat.xor_lt_two_pow (by omega) (by omega)
  refine ⟨_, bits_xor_i64_nat a 1 ha (by omega), ⟨by omega, by omega⟩, fun e => ?_⟩
  have e' : a ^^^ 1 = a := by omega
  have : (a ^^^ 1) ^^^ a = a ^^^ a := by rw [e']
  rw [Nat.xor_self, Nat.xor_comm a 1, Nat.xor_assoc, Nat.xor_self] at this
  cases this
theorem MsAt.alter {w : World} {m n : Ms} {es : List En} {ss : List UInt32} (h : MsAt w m es ss) (hR : RightM n es ss) (h1 : n.ea = m.ea) (h2 : n.en = m.en) (h3 : n.ec = m.ec) (h4 : n.sa = m.sa) (h5 : n.sn = m.sn) (h6 : n.sc = m.sc) : MsAt w n es ss := by
  obtain ⟨r1, ⟨a1, a2, a3, a4, a5, a6, a7, a8, a9, a10, a11⟩, r3, r4, r5, r6, r7⟩ := hR
  refine ⟨?_, by unfold maxLen; omega, by rw [h1, h2, h3]; exact h.ents, h.entsok, by rw [h4, h5, h6]; exact h.sums⟩
  unfold R48 at *
  unfold I64
  omega
theorem tmod8 (which : Int) : ∃ k, (IntKind.u64.wrap which).tmod 8 = k ∧ 0 ≤ k ∧ k ≤ 7 := by
  refine ⟨_, rfl, ?_, ?_⟩
  · rw [IntKind.wrap_u64, Int.tmod_eq_emod_of_nonneg (Int.emod_nonneg _ (by omega))]; omega
  · rw [IntKind.wrap_u64, Int.tmod_eq_emod_of_nonneg (Int.emod_nonneg _ (by omega))]; omega
set_option maxRecDepth 100000 in
set_option maxHeartbeats 25600000 in
theorem mapart_any {w : World} (m : Ms) (hok : MsOk w m) (which : Int) (hwh : -9223372036854775808 ≤ which ∧ which ≤ 9223372036854775807) : Calls Try.prog 9 #[.agg m.cells.toArray, .int .i64 which] w fun e w' => e = .returned (.bool true) ∧ Ext [] w w' := by
  obtain ⟨es, ss, hat0⟩ := hok
  obtain ⟨P, hP⟩ : ∃ G, G = w.heap.size := ⟨_, rfl⟩
  obtain ⟨W, hW⟩ : ∃ W, W = w.alloc (.cells m.cells.toArray 36) := ⟨_, rfl⟩
  have hB : Blk W P 36 m.cells := by rw [hW, hP]; exact Blk.new _ _ _
  have hxW : Ext [] w W := by rw [hW]; exact (Ext.refl _ _).alloc _
  have HAt := Hid.of (hat0.keep0 hxW)
  have ch := mhead_any W
  have HXW := Hid.of hxW
  have HB := Hid.of hB
  go_enter Try.func9, Try.ntmps9
  go_upto_region 1 with fail
  rw [← hW, ← hP]
  clear hW hP hB hxW hat0
  obtain ⟨k, hq, hk0, hk7⟩ := tmod8 which
  by_cases hf : FewM m es ss
  · have hfd : Hid (decide (FewM m es ss) = true) := Hid.of (decide_eq_true hf)
    have HFM := Hid.of hf
    clear hf
    by_cases hr : RightM m es ss
    · have hrd : Hid (decide (RightM m es ss) = true) := Hid.of (decide_eq_true hr)
      have HR := Hid.of hr
      clear hr
      rcases (show k = 0 ∨ k = 1 ∨ k = 2 ∨ k = 3 ∨ k = 4 ∨ k = 5 ∨ k = 6 ∨ k = 7 by omega) with rfl | rfl | rfl | rfl | rfl | rfl | rfl | rfl
      · obtain ⟨r1, ⟨a1, a2, a3, a4, a5, a6, a7, a8, a9, a10, a11⟩, r3, r4, r5, r6, r7⟩ := HR.out
        obtain ⟨r, hrq, hr0, hr7, hrn⟩ : ∃ r, m.kind.tmod 8 = r ∧ 0 ≤ r ∧ r ≤ 7 ∧ 1 + r ≠ m.kind := ⟨_, rfl, by rw [Int.tmod_eq_emod_of_nonneg (by omega)]; omega, by rw [Int.tmod_eq_emod_of_nonneg (by omega)]; omega, by rw [Int.tmod_eq_emod_of_nonneg (by omega)]; omega⟩
        obtain ⟨nn, hnn⟩ : ∃ n, n = ({ m with kind := 1 + r } : Ms) := ⟨_, rfl⟩
        have hnr : RightM nn es ss := by subst hnn; exact ⟨⟨by show 1 ≤ 1 + r; omega, by show 1 + r ≤ 8; omega⟩, ⟨a1, a2, a3, a4, a5, a6, a7, a8, a9, a10, a11⟩, r3, r4, r5, r6, r7⟩
        have hne : mv m es ss ≠ mv nn es ss := by subst hnn; intro h; simp [mv] at h; omega
        have hset : ∀ w : World, Blk (w.alloc (.cells (m.cells.set 0 (.int .i64 (1 + r))).toArray 36)) w.heap.size 36 nn.cells := fun w => by have h := Blk.new w 36 (m.cells.set 0 (.int .i64 (1 + r))).toArray; subst hnn; exact h
        have hal : ∀ w, MsAt w m es ss → MsAt w nn es ss := fun w h => h.alter hnr (by subst hnn; rfl) (by subst hnn; rfl) (by subst hnn; rfl) (by subst hnn; rfl) (by subst hnn; rfl) (by subst hnn; rfl)
        have HNR := Hid.of hnr
        have HNE := Hid.of hne
        have HNE' := Hid.of (fun h => hne h.symm : mv nn es ss ≠ mv m es ss)
        have HSet := Hid.of hset
        have HAl := Hid.of hal
        have m1 := r1.1
        have m2 := r1.2
        have s1 := r5.1
        have s2 := r5.2
        clear hnn hnr hne hset hal r3 r4 r6 r7 a1 a2 a3 a4 a5 a6 a7 a8 a9 a10 a11 r1 r5
        go_wp2_with (first
          | (go_at_call 19; (with_reducible refine ch.mono ?_); rintro e w1 ⟨rfl, hx1⟩; have HX1 := Hid.of (HXW.out.then0 hx1); have HR1 := Hid.of (HB.out.keep hx1 (by simp)).range; have HB1 := Hid.of (HB.out.keep hx1 (by simp)); have hat1 := (HAt.out.keep0 hx1); have cf := few_any m es ss w1 hat1; rw [hfd.out] at cf; have HA1 := Hid.of hat1; clear hx1 ch hat1)
          | (refine wpList_load_mid rfl 36 _ rfl P 0 rfl m.cells _ HR1.out Try.underlying36 rfl (by rw [mcells_len]; kernel_rfl) ?_)
          | (go_at_call 20; (with_reducible refine cf.mono ?_); rintro e w2 ⟨rfl, hx2⟩; have HX2 := Hid.of (HX1.out.then0 hx2); have HR2 := Hid.of (HB1.out.keep hx2 (by simp)).range; have HB2 := Hid.of (HB1.out.keep hx2 (by simp)); have hat2 := (HA1.out.keep0 hx2); have cl := lright_any m es ss w2 hat2; rw [hrd.out] at cl; have HA2 := Hid.of hat2; clear hx2 cf hat2)
          | (refine wpList_load_row_g (by first | rfl | (simp [Region.wanted, yielded]; done)) 36 _ rfl P 0 rfl m.cells _ HR2.out Try.underlying36 rfl (by rw [mcells_len]; kernel_rfl) ?_)
          | (go_at_call 23; (with_reducible refine cl.mono ?_); rintro e w3 ⟨rfl, hx3⟩; have HX3 := Hid.of (HX2.out.then0 hx3); have HB3 := Hid.of (HB2.out.keep hx3 (by simp)); have HR3 := Hid.of (HB2.out.keep hx3 (by simp)).range; have HA3 := Hid.of (HA2.out.keep0 hx3); clear hx3 cl)
          | (refine wpList_load_mid rfl 36 _ rfl P 0 rfl m.cells _ HR3.out Try.underlying36 rfl (by rw [mcells_len]; kernel_rfl) ?_)
          | (refine wpList_new_row rfl rfl 36 _ _ _ rfl rfl rfl rfl _ al_msg m.cells rfl (by kernel_rfl) (mcells_one _) rfl rfl ?_; have HB4 := Hid.of (Blk.new w3 36 m.cells.toArray); have HP4 := Hid.of (HB3.out.alloc (.cells m.cells.toArray 36)); have z1 : (w3.alloc (.cells m.cells.toArray 36)).cell? ⟨w3.heap.size, 0, none⟩ = some (.int .i64 m.kind) := HB4.out.c 0; have z2 : (w3.alloc (.cells m.cells.toArray 36)).frozen? ⟨w3.heap.size, 0, none⟩ = false := HB4.out.f 0; have z3 : (w3.alloc (.cells m.cells.toArray 36)).cell? ⟨P, 0, none⟩ = some (.int .i64 m.kind) := HP4.out.c 0; have hPl := HB3.out.lt; have hne5 : P ≠ w3.heap.size := (by omega); have HQ5 := Hid.of (HSet.out w3); have HP5 := Hid.of (HB3.out.alloc (.cells (m.cells.set 0 (.int .i64 (1 + r))).toArray 36)); have x5 : Ext [] w3 (w3.alloc (.cells (m.cells.set 0 (.int .i64 (1 + r))).toArray 36)) := (Ext.refl [] w3).alloc _; have HA5 := Hid.of (HA3.out.keep0 x5); have HX5 := Hid.of (HX3.out.then0 x5); have HRP5 := Hid.of HP5.out.range; have HRQ5 := Hid.of HQ5.out.range; have cs1 := same_m m m es es ss ss _ HA5.out HA5.out HR.out HR.out; rw [sameB_true rfl] at cs1; clear x5)
          | (refine wpList_load_mid rfl 36 _ rfl P 0 rfl m.cells _ HRP5.out Try.underlying36 rfl (by rw [mcells_len]; kernel_rfl) ?_)
          | (go_at_call 28; (with_reducible refine cs1.mono ?_); rintro e w6 ⟨rfl, hx6⟩; have HX6 := Hid.of (HX5.out.then0 hx6); have HP6 := Hid.of (HP5.out.keep hx6 (by simp)); have HQ6 := Hid.of (HQ5.out.keep hx6 (by simp)); have HRP6 := Hid.of HP6.out.range; have HRQ6 := Hid.of HQ6.out.range; have HA6 := Hid.of (HA5.out.keep0 hx6); have cs2 := same_m m nn es es ss ss _ HA6.out (HAl.out _ HA6.out) HR.out HNR.out; rw [sameB_false HNE.out] at cs2; clear hx6 cs1)
          | (refine wpList_load_row_g (by first | rfl | (simp [Region.wanted, yielded]; done)) 36 _ rfl P 0 rfl m.cells _ HRP6.out Try.underlying36 rfl (by rw [mcells_len]; kernel_rfl) ?_)
          | (refine wpList_load_row_g (by first | rfl | (simp [Region.wanted, yielded]; done)) 36 _ rfl w3.heap.size 0 rfl nn.cells _ HRQ6.out Try.underlying36 rfl (by rw [mcells_len]; kernel_rfl) ?_)
          | (go_at_call 28; (with_reducible refine cs2.mono ?_); rintro e w7 ⟨rfl, hx7⟩; have HX7 := Hid.of (HX6.out.then0 hx7); have HRP7 := Hid.of (HP6.out.keep hx7 (by simp)).range; have HRQ7 := Hid.of (HQ6.out.keep hx7 (by simp)).range; have HA7 := Hid.of (HA6.out.keep0 hx7); have cs3 := same_m nn m es es ss ss _ (HAl.out _ HA7.out) HA7.out HNR.out HR.out; rw [sameB_false HNE'.out] at cs3; clear hx7 cs2)
          | (refine wpList_load_row_g (by first | rfl | (simp [Region.wanted, yielded]; done)) 36 _ rfl w3.heap.size 0 rfl nn.cells _ HRQ7.out Try.underlying36 rfl (by rw [mcells_len]; kernel_rfl) ?_)
          | (refine wpList_load_row_g (by first | rfl | (simp [Region.wanted, yielded]; done)) 36 _ rfl P 0 rfl m.cells _ HRP7.out Try.underlying36 rfl (by rw [mcells_len]; kernel_rfl) ?_)
          | (go_at_call 28; (with_reducible refine cs3.mono ?_); rintro e w8 ⟨rfl, hx8⟩; have HX8 := Hid.of (HX7.out.then0 hx8); clear hx8 cs3))
        go_ret
        exact ⟨rfl, HX8.out⟩
      · obtain ⟨r1, ⟨a1, a2, a3, a4, a5, a6, a7, a8, a9, a10, a11⟩, r3, r4, r5, r6, r7⟩ := HR.out
        obtain ⟨y, hyq, hyr, hyn⟩ := xor1_R48 a1
        obtain ⟨nn, hnn⟩ : ∃ n, n = ({ m with frm := y } : Ms) := ⟨_, rfl⟩
        have hnr : RightM nn es ss := by subst hnn; exact ⟨r1, ⟨hyr, a2, a3, a4, a5, a6, a7, a8, a9, a10, a11⟩, r3, r4, r5, r6, r7⟩
        have hne : mv m es ss ≠ mv nn es ss := by subst hnn; intro h; simp [mv] at h; omega
        have hset : ∀ w : World, Blk (w.alloc (.cells (m.cells.set 1 (.int .i64 y)).toArray 36)) w.heap.size 36 nn.cells := fun w => by have h := Blk.new w 36 (m.cells.set 1 (.int .i64 y)).toArray; subst hnn; exact h
        have hal : ∀ w, MsAt w m es ss → MsAt w nn es ss := fun w h => h.alter hnr (by subst hnn; rfl) (by subst hnn; rfl) (by subst hnn; rfl) (by subst hnn; rfl) (by subst hnn; rfl) (by subst hnn; rfl)
        have HNR := Hid.of hnr
        have HNE := Hid.of hne
        have HNE' := Hid.of (fun h => hne h.symm : mv nn es ss ≠ mv m es ss)
        have HSet := Hid.of hset
        have HAl := Hid.of hal
        have m1 := r1.1
        have m2 := r1.2
        have s1 := r5.1
        have s2 := r5.2
        clear hnn hnr hne hset hal r3 r4 r6 r7 a1 a2 a3 a4 a5 a6 a7 a8 a9 a10 a11 r1 r5
        go_wp2_with (first
          | (go_at_call 19; (with_reducible refine ch.mono ?_); rintro e w1 ⟨rfl, hx1⟩; have HX1 := Hid.of (HXW.out.then0 hx1); have HR1 := Hid.of (HB.out.keep hx1 (by simp)).range; have HB1 := Hid.of (HB.out.keep hx1 (by simp)); have hat1 := (HAt.out.keep0 hx1); have cf := few_any m es ss w1 hat1; rw [hfd.out] at cf; have HA1 := Hid.of hat1; clear hx1 ch hat1)
          | (refine wpList_load_mid rfl 36 _ rfl P 0 rfl m.cells _ HR1.out Try.underlying36 rfl (by rw [mcells_len]; kernel_rfl) ?_)
          | (go_at_call 20; (with_reducible refine cf.mono ?_); rintro e w2 ⟨rfl, hx2⟩; have HX2 := Hid.of (HX1.out.then0 hx2); have HR2 := Hid.of (HB1.out.keep hx2 (by simp)).range; have HB2 := Hid.of (HB1.out.keep hx2 (by simp)); have hat2 := (HA1.out.keep0 hx2); have cl := lright_any m es ss w2 hat2; rw [hrd.out] at cl; have HA2 := Hid.of hat2; clear hx2 cf hat2)
          | (refine wpList_load_row_g (by first | rfl | (simp [Region.wanted, yielded]; done)) 36 _ rfl P 0 rfl m.cells _ HR2.out Try.underlying36 rfl (by rw [mcells_len]; kernel_rfl) ?_)
          | (go_at_call 23; (with_reducible refine cl.mono ?_); rintro e w3 ⟨rfl, hx3⟩; have HX3 := Hid.of (HX2.out.then0 hx3); have HB3 := Hid.of (HB2.out.keep hx3 (by simp)); have HR3 := Hid.of (HB2.out.keep hx3 (by simp)).range; have HA3 := Hid.of (HA2.out.keep0 hx3); clear hx3 cl)
          | (refine wpList_load_mid rfl 36 _ rfl P 0 rfl m.cells _ HR3.out Try.underlying36 rfl (by rw [mcells_len]; kernel_rfl) ?_)
          | (refine wpList_new_row rfl rfl 36 _ _ _ rfl rfl rfl rfl _ al_msg m.cells rfl (by kernel_rfl) (mcells_one _) rfl rfl ?_; have HB4 := Hid.of (Blk.new w3 36 m.cells.toArray); have HP4 := Hid.of (HB3.out.alloc (.cells m.cells.toArray 36)); have z1 : (w3.alloc (.cells m.cells.toArray 36)).cell? ⟨w3.heap.size, 1, none⟩ = some (.int .i64 m.frm) := HB4.out.c 1; have z2 : (w3.alloc (.cells m.cells.toArray 36)).frozen? ⟨w3.heap.size, 1, none⟩ = false := HB4.out.f 1; have z3 : (w3.alloc (.cells m.cells.toArray 36)).cell? ⟨P, 1, none⟩ = some (.int .i64 m.frm) := HP4.out.c 1; have hPl := HB3.out.lt; have hne5 : P ≠ w3.heap.size := (by omega); have HQ5 := Hid.of (HSet.out w3); have HP5 := Hid.of (HB3.out.alloc (.cells (m.cells.set 1 (.int .i64 y)).toArray 36)); have x5 : Ext [] w3 (w3.alloc (.cells (m.cells.set 1 (.int .i64 y)).toArray 36)) := (Ext.refl [] w3).alloc _; have HA5 := Hid.of (HA3.out.keep0 x5); have HX5 := Hid.of (HX3.out.then0 x5); have HRP5 := Hid.of HP5.out.range; have HRQ5 := Hid.of HQ5.out.range; have cs1 := same_m m m es es ss ss _ HA5.out HA5.out HR.out HR.out; rw [sameB_true rfl] at cs1; clear x5)
          | (refine wpList_load_mid rfl 36 _ rfl P 0 rfl m.cells _ HRP5.out Try.underlying36 rfl (by rw [mcells_len]; kernel_rfl) ?_)
          | (go_at_call 28; (with_reducible refine cs1.mono ?_); rintro e w6 ⟨rfl, hx6⟩; have HX6 := Hid.of (HX5.out.then0 hx6); have HP6 := Hid.of (HP5.out.keep hx6 (by simp)); have HQ6 := Hid.of (HQ5.out.keep hx6 (by simp)); have HRP6 := Hid.of HP6.out.range; have HRQ6 := Hid.of HQ6.out.range; have HA6 := Hid.of (HA5.out.keep0 hx6); have cs2 := same_m m nn es es ss ss _ HA6.out (HAl.out _ HA6.out) HR.out HNR.out; rw [sameB_false HNE.out] at cs2; clear hx6 cs1)
          | (refine wpList_load_row_g (by first | rfl | (simp [Region.wanted, yielded]; done)) 36 _ rfl P 0 rfl m.cells _ HRP6.out Try.underlying36 rfl (by rw [mcells_len]; kernel_rfl) ?_)
          | (refine wpList_load_row_g (by first | rfl | (simp [Region.wanted, yielded]; done)) 36 _ rfl w3.heap.size 0 rfl nn.cells _ HRQ6.out Try.underlying36 rfl (by rw [mcells_len]; kernel_rfl) ?_)
          | (go_at_call 28; (with_reducible refine cs2.mono ?_); rintro e w7 ⟨rfl, hx7⟩; have HX7 := Hid.of (HX6.out.then0 hx7); have HRP7 := Hid.of (HP6.out.keep hx7 (by simp)).range; have HRQ7 := Hid.of (HQ6.out.keep hx7 (by simp)).range; have HA7 := Hid.of (HA6.out.keep0 hx7); have cs3 := same_m nn m es es ss ss _ (HAl.out _ HA7.out) HA7.out HNR.out HR.out; rw [sameB_false HNE'.out] at cs3; clear hx7 cs2)
          | (refine wpList_load_row_g (by first | rfl | (simp [Region.wanted, yielded]; done)) 36 _ rfl w3.heap.size 0 rfl nn.cells _ HRQ7.out Try.underlying36 rfl (by rw [mcells_len]; kernel_rfl) ?_)
          | (refine wpList_load_row_g (by first | rfl | (simp [Region.wanted, yielded]; done)) 36 _ rfl P 0 rfl m.cells _ HRP7.out Try.underlying36 rfl (by rw [mcells_len]; kernel_rfl) ?_)
          | (go_at_call 28; (with_reducible refine cs3.mono ?_); rintro e w8 ⟨rfl, hx8⟩; have HX8 := Hid.of (HX7.out.then0 hx8); clear hx8 cs3))
        go_ret
        exact ⟨rfl, HX8.out⟩
      · obtain ⟨r1, ⟨a1, a2, a3, a4, a5, a6, a7, a8, a9, a10, a11⟩, r3, r4, r5, r6, r7⟩ := HR.out
        obtain ⟨y, hyq, hyr, hyn⟩ := xor1_R48 a3
        obtain ⟨nn, hnn⟩ : ∃ n, n = ({ m with term := y } : Ms) := ⟨_, rfl⟩
        have hnr : RightM nn es ss := by subst hnn; exact ⟨r1, ⟨a1, a2, hyr, a4, a5, a6, a7, a8, a9, a10, a11⟩, r3, r4, r5, r6, r7⟩
        have hne : mv m es ss ≠ mv nn es ss := by subst hnn; intro h; simp [mv] at h; omega
        have hset : ∀ w : World, Blk (w.alloc (.cells (m.cells.set 3 (.int .i64 y)).toArray 36)) w.heap.size 36 nn.cells := fun w => by have h := Blk.new w 36 (m.cells.set 3 (.int .i64 y)).toArray; subst hnn; exact h
        have hal : ∀ w, MsAt w m es ss → MsAt w nn es ss := fun w h => h.alter hnr (by subst hnn; rfl) (by subst hnn; rfl) (by subst hnn; rfl) (by subst hnn; rfl) (by subst hnn; rfl) (by subst hnn; rfl)
        have HNR := Hid.of hnr
        have HNE := Hid.of hne
        have HNE' := Hid.of (fun h => hne h.symm : mv nn es ss ≠ mv m es ss)
        have HSet := Hid.of hset
        have HAl := Hid.of hal
        have m1 := r1.1
        have m2 := r1.2
        have s1 := r5.1
        have s2 := r5.2
        clear hnn hnr hne hset hal r3 r4 r6 r7 a1 a2 a3 a4 a5 a6 a7 a8 a9 a10 a11 r1 r5
        go_wp2_with (first
          | (go_at_call 19; (with_reducible refine ch.mono ?_); rintro e w1 ⟨rfl, hx1⟩; have HX1 := Hid.of (HXW.out.then0 hx1); have HR1 := Hid.of (HB.out.keep hx1 (by simp)).range; have HB1 := Hid.of (HB.out.keep hx1 (by simp)); have hat1 := (HAt.out.keep0 hx1); have cf := few_any m es ss w1 hat1; rw [hfd.out] at cf; have HA1 := Hid.of hat1; clear hx1 ch hat1)
          | (refine wpList_load_mid rfl 36 _ rfl P 0 rfl m.cells _ HR1.out Try.underlying36 rfl (by rw [mcells_len]; kernel_rfl) ?_)
          | (go_at_call 20; (with_reducible refine cf.mono ?_); rintro e w2 ⟨rfl, hx2⟩; have HX2 := Hid.of (HX1.out.then0 hx2); have HR2 := Hid.of (HB1.out.keep hx2 (by simp)).range; have HB2 := Hid.of (HB1.out.keep hx2 (by simp)); have hat2 := (HA1.out.keep0 hx2); have cl := lright_any m es ss w2 hat2; rw [hrd.out] at cl; have HA2 := Hid.of hat2; clear hx2 cf hat2)
          | (refine wpList_load_row_g (by first | rfl | (simp [Region.wanted, yielded]; done)) 36 _ rfl P 0 rfl m.cells _ HR2.out Try.underlying36 rfl (by rw [mcells_len]; kernel_rfl) ?_)
          | (go_at_call 23; (with_reducible refine cl.mono ?_); rintro e w3 ⟨rfl, hx3⟩; have HX3 := Hid.of (HX2.out.then0 hx3); have HB3 := Hid.of (HB2.out.keep hx3 (by simp)); have HR3 := Hid.of (HB2.out.keep hx3 (by simp)).range; have HA3 := Hid.of (HA2.out.keep0 hx3); clear hx3 cl)
          | (refine wpList_load_mid rfl 36 _ rfl P 0 rfl m.cells _ HR3.out Try.underlying36 rfl (by rw [mcells_len]; kernel_rfl) ?_)
          | (refine wpList_new_row rfl rfl 36 _ _ _ rfl rfl rfl rfl _ al_msg m.cells rfl (by kernel_rfl) (mcells_one _) rfl rfl ?_; have HB4 := Hid.of (Blk.new w3 36 m.cells.toArray); have HP4 := Hid.of (HB3.out.alloc (.cells m.cells.toArray 36)); have z1 : (w3.alloc (.cells m.cells.toArray 36)).cell? ⟨w3.heap.size, 3, none⟩ = some (.int .i64 m.term) := HB4.out.c 3; have z2 : (w3.alloc (.cells m.cells.toArray 36)).frozen? ⟨w3.heap.size, 3, none⟩ = false := HB4.out.f 3; have z3 : (w3.alloc (.cells m.cells.toArray 36)).cell? ⟨P, 3, none⟩ = some (.int .i64 m.term) := HP4.out.c 3; have hPl := HB3.out.lt; have hne5 : P ≠ w3.heap.size := (by omega); have HQ5 := Hid.of (HSet.out w3); have HP5 := Hid.of (HB3.out.alloc (.cells (m.cells.set 3 (.int .i64 y)).toArray 36)); have x5 : Ext [] w3 (w3.alloc (.cells (m.cells.set 3 (.int .i64 y)).toArray 36)) := (Ext.refl [] w3).alloc _; have HA5 := Hid.of (HA3.out.keep0 x5); have HX5 := Hid.of (HX3.out.then0 x5); have HRP5 := Hid.of HP5.out.range; have HRQ5 := Hid.of HQ5.out.range; have cs1 := same_m m m es es ss ss _ HA5.out HA5.out HR.out HR.out; rw [sameB_true rfl] at cs1; clear x5)
          | (refine wpList_load_mid rfl 36 _ rfl P 0 rfl m.cells _ HRP5.out Try.underlying36 rfl (by rw [mcells_len]; kernel_rfl) ?_)
          | (go_at_call 28; (with_reducible refine cs1.mono ?_); rintro e w6 ⟨rfl, hx6⟩; have HX6 := Hid.of (HX5.out.then0 hx6); have HP6 := Hid.of (HP5.out.keep hx6 (by simp)); have HQ6 := Hid.of (HQ5.out.keep hx6 (by simp)); have HRP6 := Hid.of HP6.out.range; have HRQ6 := Hid.of HQ6.out.range; have HA6 := Hid.of (HA5.out.keep0 hx6); have cs2 := same_m m nn es es ss ss _ HA6.out (HAl.out _ HA6.out) HR.out HNR.out; rw [sameB_false HNE.out] at cs2; clear hx6 cs1)
          | (refine wpList_load_row_g (by first | rfl | (simp [Region.wanted, yielded]; done)) 36 _ rfl P 0 rfl m.cells _ HRP6.out Try.underlying36 rfl (by rw [mcells_len]; kernel_rfl) ?_)
          | (refine wpList_load_row_g (by first | rfl | (simp [Region.wanted, yielded]; done)) 36 _ rfl w3.heap.size 0 rfl nn.cells _ HRQ6.out Try.underlying36 rfl (by rw [mcells_len]; kernel_rfl) ?_)
          | (go_at_call 28; (with_reducible refine cs2.mono ?_); rintro e w7 ⟨rfl, hx7⟩; have HX7 := Hid.of (HX6.out.then0 hx7); have HRP7 := Hid.of (HP6.out.keep hx7 (by simp)).range; have HRQ7 := Hid.of (HQ6.out.keep hx7 (by simp)).range; have HA7 := Hid.of (HA6.out.keep0 hx7); have cs3 := same_m nn m es es ss ss _ (HAl.out _ HA7.out) HA7.out HNR.out HR.out; rw [sameB_false HNE'.out] at cs3; clear hx7 cs2)
          | (refine wpList_load_row_g (by first | rfl | (simp [Region.wanted, yielded]; done)) 36 _ rfl w3.heap.size 0 rfl nn.cells _ HRQ7.out Try.underlying36 rfl (by rw [mcells_len]; kernel_rfl) ?_)
          | (refine wpList_load_row_g (by first | rfl | (simp [Region.wanted, yielded]; done)) 36 _ rfl P 0 rfl m.cells _ HRP7.out Try.underlying36 rfl (by rw [mcells_len]; kernel_rfl) ?_)
          | (go_at_call 28; (with_reducible refine cs3.mono ?_); rintro e w8 ⟨rfl, hx8⟩; have HX8 := Hid.of (HX7.out.then0 hx8); clear hx8 cs3))
        go_ret
        exact ⟨rfl, HX8.out⟩
      · obtain ⟨r1, ⟨a1, a2, a3, a4, a5, a6, a7, a8, a9, a10, a11⟩, r3, r4, r5, r6, r7⟩ := HR.out
        obtain ⟨y, hyq, hyr, hyn⟩ := xor1_R48 a4
        obtain ⟨nn, hnn⟩ : ∃ n, n = ({ m with index := y } : Ms) := ⟨_, rfl⟩
        have hnr : RightM nn es ss := by subst hnn; exact ⟨r1, ⟨a1, a2, a3, hyr, a5, a6, a7, a8, a9, a10, a11⟩, r3, r4, r5, r6, r7⟩
        have hne : mv m es ss ≠ mv nn es ss := by subst hnn; intro h; simp [mv] at h; omega
        have hset : ∀ w : World, Blk (w.alloc (.cells (m.cells.set 4 (.int .i64 y)).toArray 36)) w.heap.size 36 nn.cells := fun w => by have h := Blk.new w 36 (m.cells.set 4 (.int .i64 y)).toArray; subst hnn; exact h
        have hal : ∀ w, MsAt w m es ss → MsAt w nn es ss := fun w h => h.alter hnr (by subst hnn; rfl) (by subst hnn; rfl) (by subst hnn; rfl) (by subst hnn; rfl) (by subst hnn; rfl) (by subst hnn; rfl)
        have HNR := Hid.of hnr
        have HNE := Hid.of hne
        have HNE' := Hid.of (fun h => hne h.symm : mv nn es ss ≠ mv m es ss)
        have HSet := Hid.of hset
        have HAl := Hid.of hal
        have m1 := r1.1
        have m2 := r1.2
        have s1 := r5.1
        have s2 := r5.2
        clear hnn hnr hne hset hal r3 r4 r6 r7 a1 a2 a3 a4 a5 a6 a7 a8 a9 a10 a11 r1 r5
        go_wp2_with (first
          | (go_at_call 19; (with_reducible refine ch.mono ?_); rintro e w1 ⟨rfl, hx1⟩; have HX1 := Hid.of (HXW.out.then0 hx1); have HR1 := Hid.of (HB.out.keep hx1 (by simp)).range; have HB1 := Hid.of (HB.out.keep hx1 (by simp)); have hat1 := (HAt.out.keep0 hx1); have cf := few_any m es ss w1 hat1; rw [hfd.out] at cf; have HA1 := Hid.of hat1; clear hx1 ch hat1)
          | (refine wpList_load_mid rfl 36 _ rfl P 0 rfl m.cells _ HR1.out Try.underlying36 rfl (by rw [mcells_len]; kernel_rfl) ?_)
          | (go_at_call 20; (with_reducible refine cf.mono ?_); rintro e w2 ⟨rfl, hx2⟩; have HX2 := Hid.of (HX1.out.then0 hx2); have HR2 := Hid.of (HB1.out.keep hx2 (by simp)).range; have HB2 := Hid.of (HB1.out.keep hx2 (by simp)); have hat2 := (HA1.out.keep0 hx2); have cl := lright_any m es ss w2 hat2; rw [hrd.out] at cl; have HA2 := Hid.of hat2; clear hx2 cf hat2)
          | (refine wpList_load_row_g (by first | rfl | (simp [Region.wanted, yielded]; done)) 36 _ rfl P 0 rfl m.cells _ HR2.out Try.underlying36 rfl (by rw [mcells_len]; kernel_rfl) ?_)
          | (go_at_call 23; (with_reducible refine cl.mono ?_); rintro e w3 ⟨rfl, hx3⟩; have HX3 := Hid.of (HX2.out.then0 hx3); have HB3 := Hid.of (HB2.out.keep hx3 (by simp)); have HR3 := Hid.of (HB2.out.keep hx3 (by simp)).range; have HA3 := Hid.of (HA2.out.keep0 hx3); clear hx3 cl)
          | (refine wpList_load_mid rfl 36 _ rfl P 0 rfl m.cells _ HR3.out Try.underlying36 rfl (by rw [mcells_len]; kernel_rfl) ?_)
          | (refine wpList_new_row rfl rfl 36 _ _ _ rfl rfl rfl rfl _ al_msg m.cells rfl (by kernel_rfl) (mcells_one _) rfl rfl ?_; have HB4 := Hid.of (Blk.new w3 36 m.cells.toArray); have HP4 := Hid.of (HB3.out.alloc (.cells m.cells.toArray 36)); have z1 : (w3.alloc (.cells m.cells.toArray 36)).cell? ⟨w3.heap.size, 4, none⟩ = some (.int .i64 m.index) := HB4.out.c 4; have z2 : (w3.alloc (.cells m.cells.toArray 36)).frozen? ⟨w3.heap.size, 4, none⟩ = false := HB4.out.f 4; have z3 : (w3.alloc (.cells m.cells.toArray 36)).cell? ⟨P, 4, none⟩ = some (.int .i64 m.index) := HP4.out.c 4; have hPl := HB3.out.lt; have hne5 : P ≠ w3.heap.size := (by omega); have HQ5 := Hid.of (HSet.out w3); have HP5 := Hid.of (HB3.out.alloc (.cells (m.cells.set 4 (.int .i64 y)).toArray 36)); have x5 : Ext [] w3 (w3.alloc (.cells (m.cells.set 4 (.int .i64 y)).toArray 36)) := (Ext.refl [] w3).alloc _; have HA5 := Hid.of (HA3.out.keep0 x5); have HX5 := Hid.of (HX3.out.then0 x5); have HRP5 := Hid.of HP5.out.range; have HRQ5 := Hid.of HQ5.out.range; have cs1 := same_m m m es es ss ss _ HA5.out HA5.out HR.out HR.out; rw [sameB_true rfl] at cs1; clear x5)
          | (refine wpList_load_mid rfl 36 _ rfl P 0 rfl m.cells _ HRP5.out Try.underlying36 rfl (by rw [mcells_len]; kernel_rfl) ?_)
          | (go_at_call 28; (with_reducible refine cs1.mono ?_); rintro e w6 ⟨rfl, hx6⟩; have HX6 := Hid.of (HX5.out.then0 hx6); have HP6 := Hid.of (HP5.out.keep hx6 (by simp)); have HQ6 := Hid.of (HQ5.out.keep hx6 (by simp)); have HRP6 := Hid.of HP6.out.range; have HRQ6 := Hid.of HQ6.out.range; have HA6 := Hid.of (HA5.out.keep0 hx6); have cs2 := same_m m nn es es ss ss _ HA6.out (HAl.out _ HA6.out) HR.out HNR.out; rw [sameB_false HNE.out] at cs2; clear hx6 cs1)
          | (refine wpList_load_row_g (by first | rfl | (simp [Region.wanted, yielded]; done)) 36 _ rfl P 0 rfl m.cells _ HRP6.out Try.underlying36 rfl (by rw [mcells_len]; kernel_rfl) ?_)
          | (refine wpList_load_row_g (by first | rfl | (simp [Region.wanted, yielded]; done)) 36 _ rfl w3.heap.size 0 rfl nn.cells _ HRQ6.out Try.underlying36 rfl (by rw [mcells_len]; kernel_rfl) ?_)
          | (go_at_call 28; (with_reducible refine cs2.mono ?_); rintro e w7 ⟨rfl, hx7⟩; have HX7 := Hid.of (HX6.out.then0 hx7); have HRP7 := Hid.of (HP6.out.keep hx7 (by simp)).range; have HRQ7 := Hid.of (HQ6.out.keep hx7 (by simp)).range; have HA7 := Hid.of (HA6.out.keep0 hx7); have cs3 := same_m nn m es es ss ss _ (HAl.out _ HA7.out) HA7.out HNR.out HR.out; rw [sameB_false HNE'.out] at cs3; clear hx7 cs2)
          | (refine wpList_load_row_g (by first | rfl | (simp [Region.wanted, yielded]; done)) 36 _ rfl w3.heap.size 0 rfl nn.cells _ HRQ7.out Try.underlying36 rfl (by rw [mcells_len]; kernel_rfl) ?_)
          | (refine wpList_load_row_g (by first | rfl | (simp [Region.wanted, yielded]; done)) 36 _ rfl P 0 rfl m.cells _ HRP7.out Try.underlying36 rfl (by rw [mcells_len]; kernel_rfl) ?_)
          | (go_at_call 28; (with_reducible refine cs3.mono ?_); rintro e w8 ⟨rfl, hx8⟩; have HX8 := Hid.of (HX7.out.then0 hx8); clear hx8 cs3))
        go_ret
        exact ⟨rfl, HX8.out⟩
      · obtain ⟨r1, ⟨a1, a2, a3, a4, a5, a6, a7, a8, a9, a10, a11⟩, r3, r4, r5, r6, r7⟩ := HR.out
        obtain ⟨nn, hnn⟩ : ∃ n, n = ({ m with ok := !m.ok } : Ms) := ⟨_, rfl⟩
        have hnr : RightM nn es ss := by subst hnn; exact ⟨r1, ⟨a1, a2, a3, a4, a5, a6, a7, a8, a9, a10, a11⟩, r3, r4, r5, r6, r7⟩
        have hne : mv m es ss ≠ mv nn es ss := by subst hnn; intro h; have h2 := congrArg (fun v : Mv => v.2.2.2.1) h; revert h2; show m.ok = (!m.ok) → False; cases m.ok <;> simp
        have hset : ∀ w : World, Blk (w.alloc (.cells (m.cells.set 9 (.bool (!m.ok))).toArray 36)) w.heap.size 36 nn.cells := fun w => by have h := Blk.new w 36 (m.cells.set 9 (.bool (!m.ok))).toArray; subst hnn; exact h
        have hal : ∀ w, MsAt w m es ss → MsAt w nn es ss := fun w h => h.alter hnr (by subst hnn; rfl) (by subst hnn; rfl) (by subst hnn; rfl) (by subst hnn; rfl) (by subst hnn; rfl) (by subst hnn; rfl)
        have HNR := Hid.of hnr
        have HNE := Hid.of hne
        have HNE' := Hid.of (fun h => hne h.symm : mv nn es ss ≠ mv m es ss)
        have HSet := Hid.of hset
        have HAl := Hid.of hal
        have m1 := r1.1
        have m2 := r1.2
        have s1 := r5.1
        have s2 := r5.2
        clear hnn hnr hne hset hal r3 r4 r6 r7 a1 a2 a3 a4 a5 a6 a7 a8 a9 a10 a11 r1 r5
        go_wp2_with (first
          | (go_at_call 19; (with_reducible refine ch.mono ?_); rintro e w1 ⟨rfl, hx1⟩; have HX1 := Hid.of (HXW.out.then0 hx1); have HR1 := Hid.of (HB.out.keep hx1 (by simp)).range; have HB1 := Hid.of (HB.out.keep hx1 (by simp)); have hat1 := (HAt.out.keep0 hx1); have cf := few_any m es ss w1 hat1; rw [hfd.out] at cf; have HA1 := Hid.of hat1; clear hx1 ch hat1)
          | (refine wpList_load_mid rfl 36 _ rfl P 0 rfl m.cells _ HR1.out Try.underlying36 rfl (by rw [mcells_len]; kernel_rfl) ?_)
          | (go_at_call 20; (with_reducible refine cf.mono ?_); rintro e w2 ⟨rfl, hx2⟩; have HX2 := Hid.of (HX1.out.then0 hx2); have HR2 := Hid.of (HB1.out.keep hx2 (by simp)).range; have HB2 := Hid.of (HB1.out.keep hx2 (by simp)); have hat2 := (HA1.out.keep0 hx2); have cl := lright_any m es ss w2 hat2; rw [hrd.out] at cl; have HA2 := Hid.of hat2; clear hx2 cf hat2)
          | (refine wpList_load_row_g (by first | rfl | (simp [Region.wanted, yielded]; done)) 36 _ rfl P 0 rfl m.cells _ HR2.out Try.underlying36 rfl (by rw [mcells_len]; kernel_rfl) ?_)
          | (go_at_call 23; (with_reducible refine cl.mono ?_); rintro e w3 ⟨rfl, hx3⟩; have HX3 := Hid.of (HX2.out.then0 hx3); have HB3 := Hid.of (HB2.out.keep hx3 (by simp)); have HR3 := Hid.of (HB2.out.keep hx3 (by simp)).range; have HA3 := Hid.of (HA2.out.keep0 hx3); clear hx3 cl)
          | (refine wpList_load_mid rfl 36 _ rfl P 0 rfl m.cells _ HR3.out Try.underlying36 rfl (by rw [mcells_len]; kernel_rfl) ?_)
          | (refine wpList_new_row rfl rfl 36 _ _ _ rfl rfl rfl rfl _ al_msg m.cells rfl (by kernel_rfl) (mcells_one _) rfl rfl ?_; have HB4 := Hid.of (Blk.new w3 36 m.cells.toArray); have HP4 := Hid.of (HB3.out.alloc (.cells m.cells.toArray 36)); have z1 : (w3.alloc (.cells m.cells.toArray 36)).cell? ⟨w3.heap.size, 9, none⟩ = some (.bool m.ok) := HB4.out.c 9; have z2 : (w3.alloc (.cells m.cells.toArray 36)).frozen? ⟨w3.heap.size, 9, none⟩ = false := HB4.out.f 9; have z3 : (w3.alloc (.cells m.cells.toArray 36)).cell? ⟨P, 9, none⟩ = some (.bool m.ok) := HP4.out.c 9; have hPl := HB3.out.lt; have hne5 : P ≠ w3.heap.size := (by omega); have HQ5 := Hid.of (HSet.out w3); have HP5 := Hid.of (HB3.out.alloc (.cells (m.cells.set 9 (.bool (!m.ok))).toArray 36)); have x5 : Ext [] w3 (w3.alloc (.cells (m.cells.set 9 (.bool (!m.ok))).toArray 36)) := (Ext.refl [] w3).alloc _; have HA5 := Hid.of (HA3.out.keep0 x5); have HX5 := Hid.of (HX3.out.then0 x5); have HRP5 := Hid.of HP5.out.range; have HRQ5 := Hid.of HQ5.out.range; have cs1 := same_m m m es es ss ss _ HA5.out HA5.out HR.out HR.out; rw [sameB_true rfl] at cs1; clear x5)
          | (refine wpList_load_mid rfl 36 _ rfl P 0 rfl m.cells _ HRP5.out Try.underlying36 rfl (by rw [mcells_len]; kernel_rfl) ?_)
          | (go_at_call 28; (with_reducible refine cs1.mono ?_); rintro e w6 ⟨rfl, hx6⟩; have HX6 := Hid.of (HX5.out.then0 hx6); have HP6 := Hid.of (HP5.out.keep hx6 (by simp)); have HQ6 := Hid.of (HQ5.out.keep hx6 (by simp)); have HRP6 := Hid.of HP6.out.range; have HRQ6 := Hid.of HQ6.out.range; have HA6 := Hid.of (HA5.out.keep0 hx6); have cs2 := same_m m nn es es ss ss _ HA6.out (HAl.out _ HA6.out) HR.out HNR.out; rw [sameB_false HNE.out] at cs2; clear hx6 cs1)
          | (refine wpList_load_row_g (by first | rfl | (simp [Region.wanted, yielded]; done)) 36 _ rfl P 0 rfl m.cells _ HRP6.out Try.underlying36 rfl (by rw [mcells_len]; kernel_rfl) ?_)
          | (refine wpList_load_row_g (by first | rfl | (simp [Region.wanted, yielded]; done)) 36 _ rfl w3.heap.size 0 rfl nn.cells _ HRQ6.out Try.underlying36 rfl (by rw [mcells_len]; kernel_rfl) ?_)
          | (go_at_call 28; (with_reducible refine cs2.mono ?_); rintro e w7 ⟨rfl, hx7⟩; have HX7 := Hid.of (HX6.out.then0 hx7); have HRP7 := Hid.of (HP6.out.keep hx7 (by simp)).range; have HRQ7 := Hid.of (HQ6.out.keep hx7 (by simp)).range; have HA7 := Hid.of (HA6.out.keep0 hx7); have cs3 := same_m nn m es es ss ss _ (HAl.out _ HA7.out) HA7.out HNR.out HR.out; rw [sameB_false HNE'.out] at cs3; clear hx7 cs2)
          | (refine wpList_load_row_g (by first | rfl | (simp [Region.wanted, yielded]; done)) 36 _ rfl w3.heap.size 0 rfl nn.cells _ HRQ7.out Try.underlying36 rfl (by rw [mcells_len]; kernel_rfl) ?_)
          | (refine wpList_load_row_g (by first | rfl | (simp [Region.wanted, yielded]; done)) 36 _ rfl P 0 rfl m.cells _ HRP7.out Try.underlying36 rfl (by rw [mcells_len]; kernel_rfl) ?_)
          | (go_at_call 28; (with_reducible refine cs3.mono ?_); rintro e w8 ⟨rfl, hx8⟩; have HX8 := Hid.of (HX7.out.then0 hx8); clear hx8 cs3))
        go_ret
        exact ⟨rfl, HX8.out⟩
      · obtain ⟨r1, ⟨a1, a2, a3, a4, a5, a6, a7, a8, a9, a10, a11⟩, r3, r4, r5, r6, r7⟩ := HR.out
        obtain ⟨y, hyq, hyr, hyn⟩ := xor1_R48 a11
        obtain ⟨nn, hnn⟩ : ∃ n, n = ({ m with lb := y } : Ms) := ⟨_, rfl⟩
        have hnr : RightM nn es ss := by subst hnn; exact ⟨r1, ⟨a1, a2, a3, a4, a5, a6, a7, a8, a9, a10, hyr⟩, r3, r4, r5, r6, r7⟩
        have hne : mv m es ss ≠ mv nn es ss := by subst hnn; intro h; simp [mv] at h; omega
        have hset : ∀ w : World, Blk (w.alloc (.cells (m.cells.set 13 (.int .i64 y)).toArray 36)) w.heap.size 36 nn.cells := fun w => by have h := Blk.new w 36 (m.cells.set 13 (.int .i64 y)).toArray; subst hnn; exact h
        have hal : ∀ w, MsAt w m es ss → MsAt w nn es ss := fun w h => h.alter hnr (by subst hnn; rfl) (by subst hnn; rfl) (by subst hnn; rfl) (by subst hnn; rfl) (by subst hnn; rfl) (by subst hnn; rfl)
        have HNR := Hid.of hnr
        have HNE := Hid.of hne
        have HNE' := Hid.of (fun h => hne h.symm : mv nn es ss ≠ mv m es ss)
        have HSet := Hid.of hset
        have HAl := Hid.of hal
        have m1 := r1.1
        have m2 := r1.2
        have s1 := r5.1
        have s2 := r5.2
        clear hnn hnr hne hset hal r3 r4 r6 r7 a1 a2 a3 a4 a5 a6 a7 a8 a9 a10 a11 r1 r5
        go_wp2_with (first
          | (go_at_call 19; (with_reducible refine ch.mono ?_); rintro e w1 ⟨rfl, hx1⟩; have HX1 := Hid.of (HXW.out.then0 hx1); have HR1 := Hid.of (HB.out.keep hx1 (by simp)).range; have HB1 := Hid.of (HB.out.keep hx1 (by simp)); have hat1 := (HAt.out.keep0 hx1); have cf := few_any m es ss w1 hat1; rw [hfd.out] at cf; have HA1 := Hid.of hat1; clear hx1 ch hat1)
          | (refine wpList_load_mid rfl 36 _ rfl P 0 rfl m.cells _ HR1.out Try.underlying36 rfl (by rw [mcells_len]; kernel_rfl) ?_)
          | (go_at_call 20; (with_reducible refine cf.mono ?_); rintro e w2 ⟨rfl, hx2⟩; have HX2 := Hid.of (HX1.out.then0 hx2); have HR2 := Hid.of (HB1.out.keep hx2 (by simp)).range; have HB2 := Hid.of (HB1.out.keep hx2 (by simp)); have hat2 := (HA1.out.keep0 hx2); have cl := lright_any m es ss w2 hat2; rw [hrd.out] at cl; have HA2 := Hid.of hat2; clear hx2 cf hat2)
          | (refine wpList_load_row_g (by first | rfl | (simp [Region.wanted, yielded]; done)) 36 _ rfl P 0 rfl m.cells _ HR2.out Try.underlying36 rfl (by rw [mcells_len]; kernel_rfl) ?_)
          | (go_at_call 23; (with_reducible refine cl.mono ?_); rintro e w3 ⟨rfl, hx3⟩; have HX3 := Hid.of (HX2.out.then0 hx3); have HB3 := Hid.of (HB2.out.keep hx3 (by simp)); have HR3 := Hid.of (HB2.out.keep hx3 (by simp)).range; have HA3 := Hid.of (HA2.out.keep0 hx3); clear hx3 cl)
          | (refine wpList_load_mid rfl 36 _ rfl P 0 rfl m.cells _ HR3.out Try.underlying36 rfl (by rw [mcells_len]; kernel_rfl) ?_)
          | (refine wpList_new_row rfl rfl 36 _ _ _ rfl rfl rfl rfl _ al_msg m.cells rfl (by kernel_rfl) (mcells_one _) rfl rfl ?_; have HB4 := Hid.of (Blk.new w3 36 m.cells.toArray); have HP4 := Hid.of (HB3.out.alloc (.cells m.cells.toArray 36)); have z1 : (w3.alloc (.cells m.cells.toArray 36)).cell? ⟨w3.heap.size, 13, none⟩ = some (.int .i64 m.lb) := HB4.out.c 13; have z2 : (w3.alloc (.cells m.cells.toArray 36)).frozen? ⟨w3.heap.size, 13, none⟩ = false := HB4.out.f 13; have z3 : (w3.alloc (.cells m.cells.toArray 36)).cell? ⟨P, 13, none⟩ = some (.int .i64 m.lb) := HP4.out.c 13; have hPl := HB3.out.lt; have hne5 : P ≠ w3.heap.size := (by omega); have HQ5 := Hid.of (HSet.out w3); have HP5 := Hid.of (HB3.out.alloc (.cells (m.cells.set 13 (.int .i64 y)).toArray 36)); have x5 : Ext [] w3 (w3.alloc (.cells (m.cells.set 13 (.int .i64 y)).toArray 36)) := (Ext.refl [] w3).alloc _; have HA5 := Hid.of (HA3.out.keep0 x5); have HX5 := Hid.of (HX3.out.then0 x5); have HRP5 := Hid.of HP5.out.range; have HRQ5 := Hid.of HQ5.out.range; have cs1 := same_m m m es es ss ss _ HA5.out HA5.out HR.out HR.out; rw [sameB_true rfl] at cs1; clear x5)
          | (refine wpList_load_mid rfl 36 _ rfl P 0 rfl m.cells _ HRP5.out Try.underlying36 rfl (by rw [mcells_len]; kernel_rfl) ?_)
          | (go_at_call 28; (with_reducible refine cs1.mono ?_); rintro e w6 ⟨rfl, hx6⟩; have HX6 := Hid.of (HX5.out.then0 hx6); have HP6 := Hid.of (HP5.out.keep hx6 (by simp)); have HQ6 := Hid.of (HQ5.out.keep hx6 (by simp)); have HRP6 := Hid.of HP6.out.range; have HRQ6 := Hid.of HQ6.out.range; have HA6 := Hid.of (HA5.out.keep0 hx6); have cs2 := same_m m nn es es ss ss _ HA6.out (HAl.out _ HA6.out) HR.out HNR.out; rw [sameB_false HNE.out] at cs2; clear hx6 cs1)
          | (refine wpList_load_row_g (by first | rfl | (simp [Region.wanted, yielded]; done)) 36 _ rfl P 0 rfl m.cells _ HRP6.out Try.underlying36 rfl (by rw [mcells_len]; kernel_rfl) ?_)
          | (refine wpList_load_row_g (by first | rfl | (simp [Region.wanted, yielded]; done)) 36 _ rfl w3.heap.size 0 rfl nn.cells _ HRQ6.out Try.underlying36 rfl (by rw [mcells_len]; kernel_rfl) ?_)
          | (go_at_call 28; (with_reducible refine cs2.mono ?_); rintro e w7 ⟨rfl, hx7⟩; have HX7 := Hid.of (HX6.out.then0 hx7); have HRP7 := Hid.of (HP6.out.keep hx7 (by simp)).range; have HRQ7 := Hid.of (HQ6.out.keep hx7 (by simp)).range; have HA7 := Hid.of (HA6.out.keep0 hx7); have cs3 := same_m nn m es es ss ss _ (HAl.out _ HA7.out) HA7.out HNR.out HR.out; rw [sameB_false HNE'.out] at cs3; clear hx7 cs2)
          | (refine wpList_load_row_g (by first | rfl | (simp [Region.wanted, yielded]; done)) 36 _ rfl w3.heap.size 0 rfl nn.cells _ HRQ7.out Try.underlying36 rfl (by rw [mcells_len]; kernel_rfl) ?_)
          | (refine wpList_load_row_g (by first | rfl | (simp [Region.wanted, yielded]; done)) 36 _ rfl P 0 rfl m.cells _ HRP7.out Try.underlying36 rfl (by rw [mcells_len]; kernel_rfl) ?_)
          | (go_at_call 28; (with_reducible refine cs3.mono ?_); rintro e w8 ⟨rfl, hx8⟩; have HX8 := Hid.of (HX7.out.then0 hx8); clear hx8 cs3))
        go_ret
        exact ⟨rfl, HX8.out⟩
      · obtain ⟨r1, ⟨a1, a2, a3, a4, a5, a6, a7, a8, a9, a10, a11⟩, r3, r4, r5, r6, r7⟩ := HR.out
        obtain ⟨y, hyq, hy0, hy3, hyn⟩ : ∃ y, bits .and .i64 (m.state + 1) 3 = y ∧ 0 ≤ y ∧ y ≤ 3 ∧ y ≠ m.state := ⟨_, i64_and3 _, by omega, by omega, by omega⟩
        obtain ⟨nn, hnn⟩ : ∃ n, n = ({ m with state := y } : Ms) := ⟨_, rfl⟩
        have hnr : RightM nn es ss := by subst hnn; exact ⟨r1, ⟨a1, a2, a3, a4, a5, a6, a7, a8, a9, a10, a11⟩, r3, r4, ⟨by show 0 ≤ y; omega, by show y ≤ 3; omega⟩, r6, r7⟩
        have hne : mv m es ss ≠ mv nn es ss := by subst hnn; intro h; simp [mv] at h; omega
        have hset : ∀ w : World, Blk (w.alloc (.cells (m.cells.set 10 (.int .i64 y)).toArray 36)) w.heap.size 36 nn.cells := fun w => by have h := Blk.new w 36 (m.cells.set 10 (.int .i64 y)).toArray; subst hnn; exact h
        have hal : ∀ w, MsAt w m es ss → MsAt w nn es ss := fun w h => h.alter hnr (by subst hnn; rfl) (by subst hnn; rfl) (by subst hnn; rfl) (by subst hnn; rfl) (by subst hnn; rfl) (by subst hnn; rfl)
        have HNR := Hid.of hnr
        have HNE := Hid.of hne
        have HNE' := Hid.of (fun h => hne h.symm : mv nn es ss ≠ mv m es ss)
        have HSet := Hid.of hset
        have HAl := Hid.of hal
        have m1 := r1.1
        have m2 := r1.2
        have s1 := r5.1
        have s2 := r5.2
        clear hnn hnr hne hset hal r3 r4 r6 r7 a1 a2 a3 a4 a5 a6 a7 a8 a9 a10 a11 r1 r5
        go_wp2_with (first
          | (go_at_call 19; (with_reducible refine ch.mono ?_); rintro e w1 ⟨rfl, hx1⟩; have HX1 := Hid.of (HXW.out.then0 hx1); have HR1 := Hid.of (HB.out.keep hx1 (by simp)).range; have HB1 := Hid.of (HB.out.keep hx1 (by simp)); have hat1 := (HAt.out.keep0 hx1); have cf := few_any m es ss w1 hat1; rw [hfd.out] at cf; have HA1 := Hid.of hat1; clear hx1 ch hat1)
          | (refine wpList_load_mid rfl 36 _ rfl P 0 rfl m.cells _ HR1.out Try.underlying36 rfl (by rw [mcells_len]; kernel_rfl) ?_)
          | (go_at_call 20; (with_reducible refine cf.mono ?_); rintro e w2 ⟨rfl, hx2⟩; have HX2 := Hid.of (HX1.out.then0 hx2); have HR2 := Hid.of (HB1.out.keep hx2 (by simp)).range; have HB2 := Hid.of (HB1.out.keep hx2 (by simp)); have hat2 := (HA1.out.keep0 hx2); have cl := lright_any m es ss w2 hat2; rw [hrd.out] at cl; have HA2 := Hid.of hat2; clear hx2 cf hat2)
          | (refine wpList_load_row_g (by first | rfl | (simp [Region.wanted, yielded]; done)) 36 _ rfl P 0 rfl m.cells _ HR2.out Try.underlying36 rfl (by rw [mcells_len]; kernel_rfl) ?_)
          | (go_at_call 23; (with_reducible refine cl.mono ?_); rintro e w3 ⟨rfl, hx3⟩; have HX3 := Hid.of (HX2.out.then0 hx3); have HB3 := Hid.of (HB2.out.keep hx3 (by simp)); have HR3 := Hid.of (HB2.out.keep hx3 (by simp)).range; have HA3 := Hid.of (HA2.out.keep0 hx3); clear hx3 cl)
          | (refine wpList_load_mid rfl 36 _ rfl P 0 rfl m.cells _ HR3.out Try.underlying36 rfl (by rw [mcells_len]; kernel_rfl) ?_)
          | (refine wpList_new_row rfl rfl 36 _ _ _ rfl rfl rfl rfl _ al_msg m.cells rfl (by kernel_rfl) (mcells_one _) rfl rfl ?_; have HB4 := Hid.of (Blk.new w3 36 m.cells.toArray); have HP4 := Hid.of (HB3.out.alloc (.cells m.cells.toArray 36)); have z1 : (w3.alloc (.cells m.cells.toArray 36)).cell? ⟨w3.heap.size, 10, none⟩ = some (.int .i64 m.state) := HB4.out.c 10; have z2 : (w3.alloc (.cells m.cells.toArray 36)).frozen? ⟨w3.heap.size, 10, none⟩ = false := HB4.out.f 10; have z3 : (w3.alloc (.cells m.cells.toArray 36)).cell? ⟨P, 10, none⟩ = some (.int .i64 m.state) := HP4.out.c 10; have hPl := HB3.out.lt; have hne5 : P ≠ w3.heap.size := (by omega); have HQ5 := Hid.of (HSet.out w3); have HP5 := Hid.of (HB3.out.alloc (.cells (m.cells.set 10 (.int .i64 y)).toArray 36)); have x5 : Ext [] w3 (w3.alloc (.cells (m.cells.set 10 (.int .i64 y)).toArray 36)) := (Ext.refl [] w3).alloc _; have HA5 := Hid.of (HA3.out.keep0 x5); have HX5 := Hid.of (HX3.out.then0 x5); have HRP5 := Hid.of HP5.out.range; have HRQ5 := Hid.of HQ5.out.range; have cs1 := same_m m m es es ss ss _ HA5.out HA5.out HR.out HR.out; rw [sameB_true rfl] at cs1; clear x5)
          | (refine wpList_load_mid rfl 36 _ rfl P 0 rfl m.cells _ HRP5.out Try.underlying36 rfl (by rw [mcells_len]; kernel_rfl) ?_)
          | (go_at_call 28; (with_reducible refine cs1.mono ?_); rintro e w6 ⟨rfl, hx6⟩; have HX6 := Hid.of (HX5.out.then0 hx6); have HP6 := Hid.of (HP5.out.keep hx6 (by simp)); have HQ6 := Hid.of (HQ5.out.keep hx6 (by simp)); have HRP6 := Hid.of HP6.out.range; have HRQ6 := Hid.of HQ6.out.range; have HA6 := Hid.of (HA5.out.keep0 hx6); have cs2 := same_m m nn es es ss ss _ HA6.out (HAl.out _ HA6.out) HR.out HNR.out; rw [sameB_false HNE.out] at cs2; clear hx6 cs1)
          | (refine wpList_load_row_g (by first | rfl | (simp [Region.wanted, yielded]; done)) 36 _ rfl P 0 rfl m.cells _ HRP6.out Try.underlying36 rfl (by rw [mcells_len]; kernel_rfl) ?_)
          | (refine wpList_load_row_g (by first | rfl | (simp [Region.wanted, yielded]; done)) 36 _ rfl w3.heap.size 0 rfl nn.cells _ HRQ6.out Try.underlying36 rfl (by rw [mcells_len]; kernel_rfl) ?_)
          | (go_at_call 28; (with_reducible refine cs2.mono ?_); rintro e w7 ⟨rfl, hx7⟩; have HX7 := Hid.of (HX6.out.then0 hx7); have HRP7 := Hid.of (HP6.out.keep hx7 (by simp)).range; have HRQ7 := Hid.of (HQ6.out.keep hx7 (by simp)).range; have HA7 := Hid.of (HA6.out.keep0 hx7); have cs3 := same_m nn m es es ss ss _ (HAl.out _ HA7.out) HA7.out HNR.out HR.out; rw [sameB_false HNE'.out] at cs3; clear hx7 cs2)
          | (refine wpList_load_row_g (by first | rfl | (simp [Region.wanted, yielded]; done)) 36 _ rfl w3.heap.size 0 rfl nn.cells _ HRQ7.out Try.underlying36 rfl (by rw [mcells_len]; kernel_rfl) ?_)
          | (refine wpList_load_row_g (by first | rfl | (simp [Region.wanted, yielded]; done)) 36 _ rfl P 0 rfl m.cells _ HRP7.out Try.underlying36 rfl (by rw [mcells_len]; kernel_rfl) ?_)
          | (go_at_call 28; (with_reducible refine cs3.mono ?_); rintro e w8 ⟨rfl, hx8⟩; have HX8 := Hid.of (HX7.out.then0 hx8); clear hx8 cs3))
        go_ret
        exact ⟨rfl, HX8.out⟩
      · obtain ⟨r1, ⟨a1, a2, a3, a4, a5, a6, a7, a8, a9, a10, a11⟩, r3, r4, r5, r6, r7⟩ := HR.out
        obtain ⟨y, hyq, hyr, hyn⟩ := xor1_R48 a7
        obtain ⟨nn, hnn⟩ : ∃ n, n = ({ m with commit := y } : Ms) := ⟨_, rfl⟩
        have hnr : RightM nn es ss := by subst hnn; exact ⟨r1, ⟨a1, a2, a3, a4, a5, a6, hyr, a8, a9, a10, a11⟩, r3, r4, r5, r6, r7⟩
        have hne : mv m es ss ≠ mv nn es ss := by subst hnn; intro h; simp [mv] at h; omega
        have hset : ∀ w : World, Blk (w.alloc (.cells (m.cells.set 7 (.int .i64 y)).toArray 36)) w.heap.size 36 nn.cells := fun w => by have h := Blk.new w 36 (m.cells.set 7 (.int .i64 y)).toArray; subst hnn; exact h
        have hal : ∀ w, MsAt w m es ss → MsAt w nn es ss := fun w h => h.alter hnr (by subst hnn; rfl) (by subst hnn; rfl) (by subst hnn; rfl) (by subst hnn; rfl) (by subst hnn; rfl) (by subst hnn; rfl)
        have HNR := Hid.of hnr
        have HNE := Hid.of hne
        have HNE' := Hid.of (fun h => hne h.symm : mv nn es ss ≠ mv m es ss)
        have HSet := Hid.of hset
        have HAl := Hid.of hal
        have m1 := r1.1
        have m2 := r1.2
        have s1 := r5.1
        have s2 := r5.2
        clear hnn hnr hne hset hal r3 r4 r6 r7 a1 a2 a3 a4 a5 a6 a7 a8 a9 a10 a11 r1 r5
        go_wp2_with (first
          | (go_at_call 19; (with_reducible refine ch.mono ?_); rintro e w1 ⟨rfl, hx1⟩; have HX1 := Hid.of (HXW.out.then0 hx1); have HR1 := Hid.of (HB.out.keep hx1 (by simp)).range; have HB1 := Hid.of (HB.out.keep hx1 (by simp)); have hat1 := (HAt.out.keep0 hx1); have cf := few_any m es ss w1 hat1; rw [hfd.out] at cf; have HA1 := Hid.of hat1; clear hx1 ch hat1)
          | (refine wpList_load_mid rfl 36 _ rfl P 0 rfl m.cells _ HR1.out Try.underlying36 rfl (by rw [mcells_len]; kernel_rfl) ?_)
          | (go_at_call 20; (with_reducible refine cf.mono ?_); rintro e w2 ⟨rfl, hx2⟩; have HX2 := Hid.of (HX1.out.then0 hx2); have HR2 := Hid.of (HB1.out.keep hx2 (by simp)).range; have HB2 := Hid.of (HB1.out.keep hx2 (by simp)); have hat2 := (HA1.out.keep0 hx2); have cl := lright_any m es ss w2 hat2; rw [hrd.out] at cl; have HA2 := Hid.of hat2; clear hx2 cf hat2)
          | (refine wpList_load_row_g (by first | rfl | (simp [Region.wanted, yielded]; done)) 36 _ rfl P 0 rfl m.cells _ HR2.out Try.underlying36 rfl (by rw [mcells_len]; kernel_rfl) ?_)
          | (go_at_call 23; (with_reducible refine cl.mono ?_); rintro e w3 ⟨rfl, hx3⟩; have HX3 := Hid.of (HX2.out.then0 hx3); have HB3 := Hid.of (HB2.out.keep hx3 (by simp)); have HR3 := Hid.of (HB2.out.keep hx3 (by simp)).range; have HA3 := Hid.of (HA2.out.keep0 hx3); clear hx3 cl)
          | (refine wpList_load_mid rfl 36 _ rfl P 0 rfl m.cells _ HR3.out Try.underlying36 rfl (by rw [mcells_len]; kernel_rfl) ?_)
          | (refine wpList_new_row rfl rfl 36 _ _ _ rfl rfl rfl rfl _ al_msg m.cells rfl (by kernel_rfl) (mcells_one _) rfl rfl ?_; have HB4 := Hid.of (Blk.new w3 36 m.cells.toArray); have HP4 := Hid.of (HB3.out.alloc (.cells m.cells.toArray 36)); have z1 : (w3.alloc (.cells m.cells.toArray 36)).cell? ⟨w3.heap.size, 7, none⟩ = some (.int .i64 m.commit) := HB4.out.c 7; have z2 : (w3.alloc (.cells m.cells.toArray 36)).frozen? ⟨w3.heap.size, 7, none⟩ = false := HB4.out.f 7; have z3 : (w3.alloc (.cells m.cells.toArray 36)).cell? ⟨P, 7, none⟩ = some (.int .i64 m.commit) := HP4.out.c 7; have hPl := HB3.out.lt; have hne5 : P ≠ w3.heap.size := (by omega); have HQ5 := Hid.of (HSet.out w3); have HP5 := Hid.of (HB3.out.alloc (.cells (m.cells.set 7 (.int .i64 y)).toArray 36)); have x5 : Ext [] w3 (w3.alloc (.cells (m.cells.set 7 (.int .i64 y)).toArray 36)) := (Ext.refl [] w3).alloc _; have HA5 := Hid.of (HA3.out.keep0 x5); have HX5 := Hid.of (HX3.out.then0 x5); have HRP5 := Hid.of HP5.out.range; have HRQ5 := Hid.of HQ5.out.range; have cs1 := same_m m m es es ss ss _ HA5.out HA5.out HR.out HR.out; rw [sameB_true rfl] at cs1; clear x5)
          | (refine wpList_load_mid rfl 36 _ rfl P 0 rfl m.cells _ HRP5.out Try.underlying36 rfl (by rw [mcells_len]; kernel_rfl) ?_)
          | (go_at_call 28; (with_reducible refine cs1.mono ?_); rintro e w6 ⟨rfl, hx6⟩; have HX6 := Hid.of (HX5.out.then0 hx6); have HP6 := Hid.of (HP5.out.keep hx6 (by simp)); have HQ6 := Hid.of (HQ5.out.keep hx6 (by simp)); have HRP6 := Hid.of HP6.out.range; have HRQ6 := Hid.of HQ6.out.range; have HA6 := Hid.of (HA5.out.keep0 hx6); have cs2 := same_m m nn es es ss ss _ HA6.out (HAl.out _ HA6.out) HR.out HNR.out; rw [sameB_false HNE.out] at cs2; clear hx6 cs1)
          | (refine wpList_load_row_g (by first | rfl | (simp [Region.wanted, yielded]; done)) 36 _ rfl P 0 rfl m.cells _ HRP6.out Try.underlying36 rfl (by rw [mcells_len]; kernel_rfl) ?_)
          | (refine wpList_load_row_g (by first | rfl | (simp [Region.wanted, yielded]; done)) 36 _ rfl w3.heap.size 0 rfl nn.cells _ HRQ6.out Try.underlying36 rfl (by rw [mcells_len]; kernel_rfl) ?_)
          | (go_at_call 28; (with_reducible refine cs2.mono ?_); rintro e w7 ⟨rfl, hx7⟩; have HX7 := Hid.of (HX6.out.then0 hx7); have HRP7 := Hid.of (HP6.out.keep hx7 (by simp)).range; have HRQ7 := Hid.of (HQ6.out.keep hx7 (by simp)).range; have HA7 := Hid.of (HA6.out.keep0 hx7); have cs3 := same_m nn m es es ss ss _ (HAl.out _ HA7.out) HA7.out HNR.out HR.out; rw [sameB_false HNE'.out] at cs3; clear hx7 cs2)
          | (refine wpList_load_row_g (by first | rfl | (simp [Region.wanted, yielded]; done)) 36 _ rfl w3.heap.size 0 rfl nn.cells _ HRQ7.out Try.underlying36 rfl (by rw [mcells_len]; kernel_rfl) ?_)
          | (refine wpList_load_row_g (by first | rfl | (simp [Region.wanted, yielded]; done)) 36 _ rfl P 0 rfl m.cells _ HRP7.out Try.underlying36 rfl (by rw [mcells_len]; kernel_rfl) ?_)
          | (go_at_call 28; (with_reducible refine cs3.mono ?_); rintro e w8 ⟨rfl, hx8⟩; have HX8 := Hid.of (HX7.out.then0 hx8); clear hx8 cs3))
        go_ret
        exact ⟨rfl, HX8.out⟩
    · have hrd : Hid (decide (RightM m es ss) = false) := Hid.of (decide_eq_false hr)
      clear hr
      go_wp2_with (first
        | (go_at_call 19; (with_reducible refine ch.mono ?_); rintro e w1 ⟨rfl, hx1⟩; have HX1 := Hid.of (HXW.out.then0 hx1); have HR1 := Hid.of (HB.out.keep hx1 (by simp)).range; have HB1 := Hid.of (HB.out.keep hx1 (by simp)); have hat1 := (HAt.out.keep0 hx1); have cf := few_any m es ss w1 hat1; rw [hfd.out] at cf; have HA1 := Hid.of hat1; clear hx1 ch hat1)
        | (refine wpList_load_mid rfl 36 _ rfl P 0 rfl m.cells _ HR1.out Try.underlying36 rfl (by rw [mcells_len]; kernel_rfl) ?_)
        | (go_at_call 20; (with_reducible refine cf.mono ?_); rintro e w2 ⟨rfl, hx2⟩; have HX2 := Hid.of (HX1.out.then0 hx2); have HR2 := Hid.of (HB1.out.keep hx2 (by simp)).range; have HB2 := Hid.of (HB1.out.keep hx2 (by simp)); have hat2 := (HA1.out.keep0 hx2); have cl := lright_any m es ss w2 hat2; rw [hrd.out] at cl; have HA2 := Hid.of hat2; clear hx2 cf hat2)
        | (refine wpList_load_row_g (by first | rfl | (simp [Region.wanted, yielded]; done)) 36 _ rfl P 0 rfl m.cells _ HR2.out Try.underlying36 rfl (by rw [mcells_len]; kernel_rfl) ?_)
        | (go_at_call 23; (with_reducible refine cl.mono ?_); rintro e w3 ⟨rfl, hx3⟩; have HX3 := Hid.of (HX2.out.then0 hx3); clear hx3 cl))
      go_ret
      exact ⟨rfl, HX3.out⟩
  · have hfd : Hid (decide (FewM m es ss) = false) := Hid.of (decide_eq_false hf)
    clear hf
    go_wp2_with (first
      | (go_at_call 19; (with_reducible refine ch.mono ?_); rintro e w1 ⟨rfl, hx1⟩; have HX1 := Hid.of (HXW.out.then0 hx1); have HR1 := Hid.of (HB.out.keep hx1 (by simp)).range; have HB1 := Hid.of (HB.out.keep hx1 (by simp)); have hat1 := (HAt.out.keep0 hx1); have cf := few_any m es ss w1 hat1; rw [hfd.out] at cf; have HA1 := Hid.of hat1; clear hx1 ch hat1)
      | (refine wpList_load_mid rfl 36 _ rfl P 0 rfl m.cells _ HR1.out Try.underlying36 rfl (by rw [mcells_len]; kernel_rfl) ?_)
      | (go_at_call 20; (with_reducible refine cf.mono ?_); rintro e w2 ⟨rfl, hx2⟩; have HX2 := Hid.of (HX1.out.then0 hx2); clear hx2 cf))
    go_ret
    exact ⟨rfl, HX2.out⟩
end Go.Proofs.Ytaekkkcgoegllaa
