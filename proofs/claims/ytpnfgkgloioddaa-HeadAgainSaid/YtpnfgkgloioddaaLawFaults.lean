/- HeadFaults: the walk. -/
import Derived.Test.YtpnfgkgloioddaaHdBeg
import Derived.Test.YtpnfgkgloioddaaBits
import Derived.Test.YtpnfgkgloioddaaHeld
namespace Go.Proofs.Ytpnfgkgloioddaa
open Go.RowKit
set_option linter.unusedVariables false
set_option linter.unusedSimpArgs false

theorem b8_or1 (x : UInt8) : bits .or .u8 (x.toNat : Int) 1 = ((x ||| 1).toNat : Int) := by
  have h : ∀ y : Fin 256, bits .or .u8 (y.val : Int) 1 = ((UInt8.ofNat y.val ||| 1).toNat : Int) := by decide +kernel
  have := h ⟨x.toNat, x.toNat_lt⟩
  simpa using this
theorem or1_ne (x : UInt8) : x ||| 1 ≠ 0 := by
  have h : ∀ y : Fin 256, UInt8.ofNat y.val ||| 1 ≠ 0 := by decide +kernel
  have h2 := h ⟨x.toNat, x.toNat_lt⟩
  rwa [show UInt8.ofNat (⟨x.toNat, x.toNat_lt⟩ : Fin 256).val = x by simp] at h2

/-! What befalls a block. -/
def hurtD (lose : Bool) (k at_ : Int) (c : UInt8) (D : Dv) : Dv := if lose = true then loseD k D else flipD k at_ (c ||| 1) D
structure GoodB (D : Dv) (k : Int) (r : Rc) : Prop where
  safe : D.safe k = putV r
  lost : D.lost k = false
  hurt : D.hurt k = false
def BadB (D : Dv) (k : Int) : Prop := D.lost k = true ∨ (D.lost k = false ∧ getS (D.safe k) = 2)
theorem cp_badB {D : Dv} (h : Two D) {k : Int} (h0 : 0 ≤ k) (h1 : k < 2) (hb : BadB D k) : cpOf k D = Cp.bad := by
  rcases hb with hb | ⟨hb, hg⟩
  · exact cp_lost h h0 h1 hb
  · exact cp_badS h h0 h1 hb hg
theorem hurt_at {D : Dv} (h : Two D) {k : Int} (h0 : 0 ≤ k) (h1 : k < 2) {r : Rc} (hr : putE r = 0) (hg : GoodB D k r) (lose : Bool) (at_ : Int) (c : UInt8) :
    Two (hurtD lose k at_ c D) ∧ BadB (hurtD lose k at_ c D) k ∧ (∀ j r', j ≠ k → GoodB D j r' → GoodB (hurtD lose k at_ c D) j r') ∧ (∀ j, j ≠ k → BadB D j → BadB (hurtD lose k at_ c D) j) := by
  have hsz := h.size
  cases lose with
  | true =>
    have e : hurtD true k at_ c D = ⟨D.size, D.safe, D.since, setF D.lost k true, D.hurt, D.fall, D.down⟩ := by rw [hurtD, if_pos rfl, loseD, if_pos (by omega)]
    rw [e]
    refine ⟨⟨⟨h.live.fall, h.live.down⟩, h.since, h.size⟩, .inl (setF_same _ _ _), fun j r' hj hg => ⟨hg.safe, (setF_other _ _ _ _ hj).trans hg.lost, hg.hurt⟩, fun j hj hb => ?_⟩
    rcases hb with hb | ⟨hb, hs⟩
    · exact .inl ((setF_other _ _ _ _ hj).trans hb)
    · exact .inr ⟨(setF_other _ _ _ _ hj).trans hb, hs⟩
  | false =>
    have e : hurtD false k at_ c D = ⟨D.size, setF D.safe k (flipL (D.safe k) at_ (c ||| 1)), D.since, D.lost, setF D.hurt k true, D.fall, D.down⟩ := by
      rw [hurtD, if_neg (by decide), flipD, if_pos ⟨h0, by omega, by rw [hg.safe]; exact putV_ne hr, or1_ne c, hg.hurt⟩]
    rw [e]
    refine ⟨⟨⟨h.live.fall, h.live.down⟩, h.since, h.size⟩, .inr ⟨hg.lost, ?_⟩, fun j r' hj hg => ⟨(setF_other _ _ _ _ hj).trans hg.safe, hg.lost, (setF_other _ _ _ _ hj).trans hg.hurt⟩, fun j hj hb => ?_⟩
    · show getS (setF D.safe k (flipL (D.safe k) at_ (c ||| 1)) k) = 2
      rw [setF_same, hg.safe]
      unfold flipL
      have hl := putV_len hr
      exact flip_bad hr _ (Nat.mod_lt _ (by omega)) _ (or1_ne c)
    · rcases hb with hb | ⟨hb, hs⟩
      · exact .inl hb
      · exact .inr ⟨hb, by show getS (setF D.safe k _ j) = 2; rw [setF_other _ _ _ _ hj]; exact hs⟩
theorem Good2.b {D : Dv} {t : Int} {hd : Hd} (h : Good2 D t hd) : GoodB D 0 (hdRec t hd) ∧ GoodB D 1 (hdRec t hd) := ⟨⟨h.safe.1, h.lost.1, h.hurt.1⟩, ⟨h.safe.2, h.lost.2, h.hurt.2⟩⟩
theorem cp_goodB {D : Dv} (h : Two D) {k : Int} (h0 : 0 ≤ k) (h1 : k < 2) {t : Int} {hd : Hd} (hr : hd.right) (t0 : 0 ≤ t) (t1 : t ≤ 281474976710655) (hg : GoodB D k (hdRec t hd)) : cpOf k D = Cp.good t hd := cp_good h h0 h1 hg.lost hr t0 t1 hg.safe
/-- One block hurt: it is found, and made good. -/
theorem fault_one {D : Dv} {t : Int} {hd : Hd} (h : Good2 D t hd) (hr : hd.right) (t0 : 0 < t) (t1 : t < 281474976710655) {k : Int} (hk : k = 0 ∨ k = 1) (lose : Bool) (at_ : Int) (c : UInt8) :
    (openE (hurtD lose k at_ c D) = 0 ∧ (osK (hurtD lose k at_ c D) 2).h = hd ∧ (osK (hurtD lose k at_ c D) 2).turn = t) ∧ scPut t hd (hurtD lose k at_ c D) ∧ putHE t hd (hurtD lose k at_ c D) = 0 ∧ Good2 (putHD t hd (hurtD lose k at_ c D)) (t + 1) hd ∧ (hurtD lose k at_ c D).since = [] := by
  have hp := hdRec_put hr (by omega : 0 ≤ t) (by omega : t ≤ 281474976710655)
  rcases hk with rfl | rfl
  · obtain ⟨a1, a2, a3, _⟩ := hurt_at h.two (by omega) (by omega) hp h.b.1 lose at_ c
    have c0 := cp_badB a1 (by omega) (by omega) a2
    have c1 := cp_goodB a1 (by omega) (by omega) hr (by omega) (by omega) (a3 1 _ (by omega) h.b.2)
    obtain ⟨p1, p2, _⟩ := put_two a1 (t := t) (hd := hd) ⟨hr, t1⟩ (by omega)
    exact ⟨open_bg c0 c1, sc_first t0 (by rw [c0]; rfl) (by rw [c0]; simp [Cp.bad, Cp.good]), p1, p2, a1.since⟩
  · obtain ⟨a1, a2, a3, _⟩ := hurt_at h.two (by omega) (by omega) hp h.b.2 lose at_ c
    have c1 := cp_badB a1 (by omega) (by omega) a2
    have c0 := cp_goodB a1 (by omega) (by omega) hr (by omega) (by omega) (a3 0 _ (by omega) h.b.1)
    obtain ⟨p1, p2, _⟩ := put_two a1 (t := t) (hd := hd) ⟨hr, t1⟩ (by omega)
    exact ⟨open_gb c0 c1, sc_second t0 c0 (by rw [c1]; rfl) (by rw [c1]; simp [Cp.bad, Cp.good]), p1, p2, a1.since⟩
theorem fault_both {D : Dv} {t : Int} {hd : Hd} (h : Good2 D t hd) (hr : hd.right) (t0 : 0 ≤ t) (t1 : t ≤ 281474976710655) (lose : Bool) (at_ : Int) (c : UInt8) : openE (hurtD lose 1 at_ c (hurtD lose 0 at_ c D)) = 6 := by
  have hp := hdRec_put hr t0 t1
  obtain ⟨a1, a2, a3, _⟩ := hurt_at h.two (k := 0) (by omega) (by omega) hp h.b.1 lose at_ c
  obtain ⟨b1, b2, _, b4⟩ := hurt_at a1 (k := 1) (by omega) (by omega) hp (a3 1 _ (by omega) h.b.2) lose at_ c
  exact open_bb (cp_badB b1 (by omega) (by omega) (b4 0 (by omega) a2)) (cp_badB b1 (by omega) (by omega) b2)

theorem hurt_any (b pl pd pa pb : Nat) (D : Dv) (k at_ : Int) (c : UInt8) (lose : Bool) (w0 w : World) (O : List Nat) (hd : DevO w0 w b D O) (hat : -9223372036854775808 ≤ at_ ∧ at_ ≤ 9223372036854775807)
    (hl : w.cell? ⟨pl, 0, none⟩ = some (.bool lose)) (hdd : w.cell? ⟨pd, 0, none⟩ = some (.pointer (some ⟨b, 0, none⟩))) (ha : w.cell? ⟨pa, 0, none⟩ = some (.int .i64 at_)) (hb : w.cell? ⟨pb, 0, none⟩ = some (.int .u8 (c.toNat : Int))) :
    Calls Try.prog 48 #[.int .i64 k, .pointer (some ⟨pl, 0, none⟩), .pointer (some ⟨pd, 0, none⟩), .pointer (some ⟨pa, 0, none⟩), .pointer (some ⟨pb, 0, none⟩)] w
      fun e w' => e = .returned (.tuple #[]) ∧ DevO w0 w' b (hurtD lose k at_ c D) O ∧ Kept O w w' := by
  have hor := b8_or1 c
  have cL := lose_o b D k w0 w O hd
  have cF := flip_o b D k at_ (c ||| 1) w0 w O hd hat
  obtain ⟨c1, hc1⟩ : ∃ x, x = c ||| 1 := ⟨_, rfl⟩
  have HU : Hid (hurtD lose k at_ c D = if lose = true then loseD k D else flipD k at_ c1 D) := by show _ = _; rw [hc1]; rfl
  rw [← hc1] at hor cF
  clear hc1
  go_enter Try.func48, Try.ntmps48
  cases lose with
  | true =>
    go_wp2_with fail
    refine cL.mono ?_
    rintro e w1 ⟨rfl, h1, h2⟩
    clear cF cL
    go_wp2
    refine bodyPost_ret (results_none rfl _ _ _) rfl ?_
    rw [HU.out]
    exact ⟨rfl, h1, h2⟩
  | false =>
    go_wp2_with fail
    refine cF.mono ?_
    rintro e w1 ⟨rfl, h1, h2⟩
    clear cF cL
    go_wp2
    go_end0
    rw [HU.out]
    exact ⟨rfl, h1, h2⟩
theorem wrap64 (n : Int) : -9223372036854775808 ≤ IntKind.i64.wrap n ∧ IntKind.i64.wrap n ≤ 9223372036854775807 := by
  rw [IntKind.wrap_i64]; omega
theorem sc_new (h : Hd) : ¬ scPut 0 h (newD 4) ∧ scE (newD 4) = 0 :=
  sc_nn (cp_none (Two.new 4 (by decide)) (by omega) (by omega) rfl rfl) (cp_none (Two.new 4 (by decide)) (by omega) (by omega) rfl rfl)

attribute [local go_sem] i64_and1
set_option maxRecDepth 100000 in
set_option maxHeartbeats 20000000 in
theorem faults_any {w : World} (h : Hd) (_ : True) (which : Int) (hwh : -9223372036854775808 ≤ which ∧ which ≤ 9223372036854775807) (at_ : Int) (hat : -9223372036854775808 ≤ at_ ∧ at_ ≤ 9223372036854775807) (c : UInt8) (lose : Bool) :
    Calls Try.prog 15 #[h.val, .int .i64 which, .int .i64 at_, .int .u8 (c.toNat : Int), .bool lose] w fun e w' => e = .returned (.bool true) ∧ Ext [] w w' := by
  have HR := fun W => right_any h W
  have HX : ∀ a1 a2 a3 a4 a5 a6 a7 : Value, ∃ W0, W0 = (((w.alloc (.cells #[a1, a2, a3, a4] 75)).alloc (.cells #[a5] 3)).alloc (.cells #[a6] 5)).alloc (.cells #[a7] 4) ∧ Ext [] w W0 ∧
      Blk W0 w.heap.size 75 [a1, a2, a3, a4] ∧ Blk W0 (w.heap.size + 1) 3 [a5] ∧ Blk W0 (w.heap.size + 1 + 1) 5 [a6] ∧ Blk W0 (w.heap.size + 1 + 1 + 1) 4 [a7] := fun a1 a2 a3 a4 a5 a6 a7 =>
    ⟨_, rfl, ((((Ext.refl _ _).alloc _).alloc _).alloc _).alloc _, (((Blk.new w 75 #[a1, a2, a3, a4]).alloc _).alloc _).alloc _, ((Blk.newg (C := #[a5]) (by simp)).alloc _).alloc _, (Blk.newg (C := #[a6]) (by simp)).alloc _, Blk.newg (C := #[a7]) (by simp)⟩
  by_cases hr : h.right
  · have e1 : decide h.right = true := by simpa using hr
    rw [e1] at HR
    have HO : Hid (openE (newD 4) = 0 ∧ (osK (newD 4) 2).h = Hd.one ∧ (osK (newD 4) 2).turn = 0) := open_new (by decide)
    have HP : Hid (putHE 0 h (newD 4) = 0 ∧ Good2 (putHD 0 h (newD 4)) 1 h) := by
      obtain ⟨a, b, _⟩ := put_two (Two.new 4 (by decide)) (t := 0) (hd := h) ⟨hr, by decide⟩ (by decide)
      exact ⟨a, b⟩
    have HF : Hid (∀ (D : Dv) (t : Int), Good2 D t h → 0 < t → t < 281474976710655 → ∀ B : Int, B = 0 ∨ B = 1 → (openE (hurtD lose B at_ c D) = 0 ∧ (osK (hurtD lose B at_ c D) 2).h = h ∧ (osK (hurtD lose B at_ c D) 2).turn = t) ∧ scPut t h (hurtD lose B at_ c D) ∧ putHE t h (hurtD lose B at_ c D) = 0 ∧ Good2 (putHD t h (hurtD lose B at_ c D)) (t + 1) h ∧ (hurtD lose B at_ c D).since = []) :=
      fun D t hg t0 t1 B hB => fault_one hg hr t0 t1 hB lose at_ c
    have HF2 : Hid (∀ (D : Dv) (t : Int), Good2 D t h → 0 < t → t < 281474976710655 → openE (hurtD lose 1 at_ c (hurtD lose 0 at_ c D)) = 6) := fun D t hg t0 t1 => fault_both hg hr (by omega) (by omega) lose at_ c
    have HV : Hid (h.val = .agg #[.int .i64 h.term, .int .i64 h.vote, .int .i64 h.first, .int .i64 h.base]) := rfl
    rw [HV.out] at HR ⊢
    obtain ⟨x, hx⟩ : ∃ x, x = h.term := ⟨_, rfl⟩
    obtain ⟨v, hv⟩ : ∃ x, x = h.vote := ⟨_, rfl⟩
    obtain ⟨f, hf⟩ : ∃ x, x = h.first := ⟨_, rfl⟩
    obtain ⟨bb, hbb⟩ : ∃ x, x = h.base := ⟨_, rfl⟩
    rw [← hx, ← hv, ← hf, ← hbb] at HR ⊢
    have HV2 : Hid (h.val = .agg #[.int .i64 x, .int .i64 v, .int .i64 f, .int .i64 bb]) := by show _ = _; rw [HV.out, hx, hv, hf, hbb]
    clear HV hx hv hf hbb hr e1
    go_enter Try.func15, Try.ntmps15
    go_wp2_with fail
    obtain ⟨W0, hW0, hx0, hB0, hA0, hC0, hL0⟩ := HX (.int .i64 x) (.int .i64 v) (.int .i64 f) (.int .i64 bb) (.int .i64 at_) (.int .u8 (c.toNat : Int)) (.bool lose)
    rw [← hW0]
    obtain ⟨pl, hpl⟩ : ∃ p, p = w.heap.size + 1 + 1 + 1 := ⟨_, rfl⟩
    obtain ⟨pb, hpb⟩ : ∃ p, p = w.heap.size + 1 + 1 := ⟨_, rfl⟩
    obtain ⟨pa, hpa⟩ : ∃ p, p = w.heap.size + 1 := ⟨_, rfl⟩
    obtain ⟨p, hp⟩ : ∃ p, p = w.heap.size := ⟨_, rfl⟩
    rw [← hpl] at hL0
    rw [← hpb] at hC0
    rw [← hpa] at hA0
    rw [← hp] at hB0
    rw [← hpl, ← hpb, ← hpa, ← hp]
    clear hpl hpb hpa hp HX hW0
    refine (begin5_any _).mono ?_
    rintro e w1 ⟨rfl, hx⟩
    replace hB0 := hB0.keep hx (by simp)
    replace hA0 := hA0.keep hx (by simp)
    replace hC0 := hC0.keep hx (by simp)
    replace hL0 := hL0.keep hx (by simp)
    have hxw : Ext [] w w1 := hx0.then0 hx
    clear hx hx0
    have b0 := hB0.c 0
    have b1 := hB0.c 1
    have b2 := hB0.c 2
    have b3 := hB0.c 3
    simp only [List.getElem?_cons_zero, List.getElem?_cons_succ] at b0 b1 b2 b3
    go_wp2_with fail
    refine (HR _).mono ?_
    rintro e w2 ⟨rfl, hx2⟩
    replace hxw := hxw.then0 hx2
    replace hB0 := hB0.keep hx2 (by simp)
    replace hA0 := hA0.keep hx2 (by simp)
    replace hC0 := hC0.keep hx2 (by simp)
    replace hL0 := hL0.keep hx2 (by simp)
    clear b0 b1 b2 b3 HR hx2
    go_wp2_with fail
    refine (new_n 4 w2 _ (Ext.refl _ _)).mono ?_
    rintro e w3 ⟨b, rfl, hd, -⟩
    go_wp2_with fail
    obtain ⟨W3, hW3⟩ : ∃ W, W = w3.alloc (.cells #[.pointer (some ⟨b, 0, none⟩)] 25) := ⟨_, rfl⟩
    obtain ⟨pd, hpd⟩ : ∃ p, p = w3.heap.size := ⟨_, rfl⟩
    have hx3 : Ext [] w3 W3 := by rw [hW3]; exact (Ext.refl _ _).alloc _
    have hP : Blk W3 pd 25 [.pointer (some ⟨b, 0, none⟩)] := by rw [hW3]; exact Blk.newg (C := #[.pointer (some ⟨b, 0, none⟩)]) hpd.symm
    have hd3 : DevO w2 W3 b (newD 4) [pd] := hd.o.add hx3 pd (by omega) hP.lt
    have hpd2 : w2.heap.size ≤ pd := by have := hd.ext.size; omega
    rw [← hW3, ← hpd]
    clear hd hW3 hx3 hpd
    have d0 := hP.c 0
    simp only [List.getElem?_cons_zero] at d0
    refine (open_yes hd3 HO.out).mono ?_
    rintro e w4 ⟨q, rfl, hs, hd4, hx4, hq⟩
    have hqpd : ¬ pd = q := by have := hP.lt; omega
    have hq2 : w2.heap.size ≤ q := by have := hP.lt; omega
    replace hP := hP.keep hx4 (by simp)
    clear hd3 d0 hx4 hq
    have hB4 := hB0.keep hd4.ext (by simp)
    have b0 := hB4.c 0
    have b1 := hB4.c 1
    have b2 := hB4.c 2
    have b3 := hB4.c 3
    simp only [List.getElem?_cons_zero, List.getElem?_cons_succ] at b0 b1 b2 b3
    have cP := put_yes (h := h) [pd] hd4 (by simp) hq2 hs (by decide) (by decide) (by simp [hqpd]) (by simp [newD]) HP.out.1
    rw [HV2.out] at cP
    go_wp2_with fail
    refine cP.mono ?_
    rintro e w5 ⟨rfl, hd5, -, hk5⟩
    have hG := HP.out.2
    replace hP : Blk w5 pd 25 [.pointer (some ⟨b, 0, none⟩)] := hk5 pd (by simp) _ hP
    obtain ⟨D1, hD1⟩ : ∃ D, D = putHD 0 h (newD 4) := ⟨_, rfl⟩
    rw [← hD1] at hd5 hG
    replace hd5 := hd5.less (O' := [pd]) (by simp)
    clear b0 b1 b2 b3 hB4 hd4 hs cP hk5 hq2 hqpd HP hD1
    go_wp2_with fail
    go_loopw [15, 1] (fun i z wr => ∃ (k : Nat) (y : Int) (D : Dv), k ≤ 2 ∧ i = .int .i64 k ∧ z = .int .i64 y ∧ DevO w2 wr b D [pd] ∧ Good2 D (k + 1) h ∧ Blk wr pd 25 [.pointer (some ⟨b, 0, none⟩)]) (fun i _ _ => 2 - (intOf i).toNat)
    case atStart => exact ⟨0, which, D1, by omega, rfl, rfl, hd5, hG, hP⟩
    case round =>
      clear hd5 hG hP
      obtain ⟨k, y, D, hk, rfl, rfl, hd, hG, hP⟩ := hrel
      have hL := hL0.keep hd.ext (by simp)
      have hA := hA0.keep hd.ext (by simp)
      have hC := hC0.keep hd.ext (by simp)
      have d0 := hP.c 0
      have l0 := hL.c 0
      have a0 := hA.c 0
      have c0 := hC.c 0
      simp only [List.getElem?_cons_zero] at d0 l0 a0 c0
      by_cases hlt : k < 2
      · obtain ⟨B, hB⟩ : ∃ B, y % 2 = B := ⟨_, rfl⟩
        have hB01 : B = 0 ∨ B = 1 := by omega
        obtain ⟨f1, f2, f3, f4, f5⟩ := HF.out D (k + 1) hG (by omega) (by omega) B hB01
        have F1 : Hid (openE (hurtD lose B at_ c D) = 0 ∧ (osK (hurtD lose B at_ c D) 2).h = h ∧ (osK (hurtD lose B at_ c D) 2).turn = k + 1) := f1
        have F2 : Hid (scPut (k + 1) h (hurtD lose B at_ c D) ∧ putHE (k + 1) h (hurtD lose B at_ c D) = 0 ∧ Good2 (putHD (k + 1) h (hurtD lose B at_ c D)) (k + 1 + 1) h ∧ (hurtD lose B at_ c D).since = []) := ⟨f2, f3, f4, f5⟩
        clear f1 f2 f3 f4 f5 hB01 hG HF HF2
        have cU := hurt_any b pl pd pa pb D B at_ c lose w2 wr [pd] hd hat l0 d0 a0 c0
        obtain ⟨E, hE⟩ : ∃ E, E = hurtD lose B at_ c D := ⟨_, rfl⟩
        rw [← hE] at cU F1 F2
        clear hE l0 a0 c0 d0
        go_wp2_with fail
        (go_at_call 48)
        refine cU.mono ?_
        rintro e w6 ⟨rfl, hd6, hk6⟩
        replace hP : Blk w6 pd 25 [.pointer (some ⟨b, 0, none⟩)] := hk6 pd (by simp) _ hP
        clear hd cU hk6
        have d0 := hP.c 0
        simp only [List.getElem?_cons_zero] at d0
        go_wp2_with fail
        refine (open_yes hd6 F1.out).mono ?_
        rintro e w7 ⟨q, rfl, hs, hd7, hx7, hq⟩
        have hqpd : ¬ pd = q := by have := hP.lt; omega
        have hq2 : w2.heap.size ≤ q := by have := hP.lt; omega
        replace hP := hP.keep hx7 (by simp)
        clear hd6 d0 hx7 hq F1
        have hB7 := hB0.keep hd7.ext (by simp)
        have b0 := hB7.c 0
        have b1 := hB7.c 1
        have b2 := hB7.c 2
        have b3 := hB7.c 3
        simp only [List.getElem?_cons_zero, List.getElem?_cons_succ] at b0 b1 b2 b3
        have hlp := hB7.lt
        have cH : ∀ W, Ext [] w7 W → Calls Try.prog 46 #[.pointer (some ⟨q, 0, none⟩)] W fun e w' => e = .returned (.agg #[.int .i64 x, .int .i64 v, .int .i64 f, .int .i64 bb]) ∧ Ext [] w7 w' := by
          intro W hW
          have := head_o q b (k + 1) h W (hs.keep hW (by simp))
          rw [HV2.out] at this
          exact this.mono fun e w' ⟨h1, h2⟩ => ⟨h1, hW.then0 h2⟩
        have cS : ∀ W, Ext [] w7 W → Calls Try.prog 47 #[.pointer (some ⟨q, 0, none⟩)] W fun e w' => e = .returned (.int .i64 0) ∧ DevO w2 w' b (putHD (k + 1) h E) [pd] ∧ Blk w' pd 25 [.pointer (some ⟨b, 0, none⟩)] := by
          intro W hW
          exact (scrub_yes [pd] (hd7.keep hW) (by simp) hq2 (hs.keep hW (by simp)) (by omega) (by omega) (by simp [hqpd]) (by rw [F2.out.2.2.2]; simp) F2.out.1 F2.out.2.1).mono fun e w' ⟨h1, h2, _, h4⟩ => ⟨h1, h2.less (by simp), h4 pd (by simp) _ (hP.keep hW (by simp))⟩
        have HB : Hid (∀ W, Ext [] w7 W → W.cell? ⟨p, 0, none⟩ = some (.int .i64 x) ∧ W.cell? ⟨p, 1, none⟩ = some (.int .i64 v) ∧ W.cell? ⟨p, 2, none⟩ = some (.int .i64 f) ∧ W.cell? ⟨p, 3, none⟩ = some (.int .i64 bb)) := fun W hW => ⟨hW.cell (by simp) b0, hW.cell (by simp) b1, hW.cell (by simp) b2, hW.cell (by simp) b3⟩
        have HG3 : Hid (Good2 (putHD (k + 1) h E) ((k + 1 : Nat) + 1) h) := by
          have e : ((k + 1 : Nat) : Int) + 1 = k + 1 + 1 := by omega
          show Good2 _ _ _
          rw [e]
          exact F2.out.2.2.1
        clear hd7 hs hB7 hP F2 hqpd hq2 hL hA hC
        go_wp2_with fail
        go_region_with
          (first
            | ((go_at_call 46); (with_reducible refine (cH _ ?_).mono ?_); (exact (Ext.refl [] _).drew); rintro e w9 ⟨rfl, hx9⟩; obtain ⟨g0, g1, g2, g3⟩ := HB.out w9 hx9)
            | ((go_at_call 47); (with_reducible refine (cS _ ?_).mono ?_); (exact hx9); rintro e w10 ⟨rfl, hd10, hP10⟩; clear b0 b1 b2 b3 g0 g1 g2 g3 HB cS cH hx9))
        all_goals (
          have hG3 := HG3.out
          go_wp2
          go_roundw
          case rel => exact ⟨k + 1, _, _, by omega, by go_num, rfl, hd10, hG3, hP10⟩
          case measure => simp [intOf]; omega)
      · obtain rfl : k = 2 := by omega
        have hE6 := HF2.out D _ hG (by omega) (by omega)
        have HE6 : Hid (openE (hurtD lose 1 at_ c (hurtD lose 0 at_ c D)) = 6) := hE6
        clear HF HF2 hE6 hG
        have cU := hurt_any b pl pd pa pb D 0 at_ c lose w2 wr [pd] hd hat l0 d0 a0 c0
        clear l0 a0 c0 d0
        go_wp2_with fail
        (go_at_call 48)
        refine cU.mono ?_
        rintro e w6 ⟨rfl, hd6, hk6⟩
        replace hP : Blk w6 pd 25 [.pointer (some ⟨b, 0, none⟩)] := hk6 pd (by simp) _ hP
        clear hd cU hk6
        have hL := hL0.keep hd6.ext (by simp)
        have hA := hA0.keep hd6.ext (by simp)
        have hC := hC0.keep hd6.ext (by simp)
        have d0 := hP.c 0
        have l0 := hL.c 0
        have a0 := hA.c 0
        have c0 := hC.c 0
        simp only [List.getElem?_cons_zero] at d0 l0 a0 c0
        have cU := hurt_any b pl pd pa pb _ 1 at_ c lose w2 w6 [pd] hd6 hat l0 d0 a0 c0
        clear l0 a0 c0 d0
        go_wp2_with fail
        (go_at_call 48)
        refine cU.mono ?_
        rintro e w7 ⟨rfl, hd7, hk7⟩
        replace hP : Blk w7 pd 25 [.pointer (some ⟨b, 0, none⟩)] := hk7 pd (by simp) _ hP
        clear hd6 cU hk7
        have d0 := hP.c 0
        simp only [List.getElem?_cons_zero] at d0
        go_wp2_with fail
        refine (open_no hd7 HE6.out (by decide)).mono ?_
        rintro e w8 ⟨rfl, hd8, -⟩
        have hx8 : Ext [] w w8 := hxw.then0 hd8.ext
        clear d0 hd7 hd8 hP HE6 hL0 hA0 hC0 hB0 hL hA hC hxw
        go_wp2_with fail
        refine (new_n 4 w8 _ (Ext.refl _ _)).mono ?_
        rintro e w9 ⟨b2, rfl, hd9, -⟩
        go_wp2_with fail
        refine (open_yes hd9.o HO.out).mono ?_
        rintro e w10 ⟨q, rfl, hs, hd10, -, hq⟩
        have hq2 : w8.heap.size ≤ q := by have := hd9.ext.size; omega
        clear hd9 hq HO
        go_wp2_with fail
        refine (scrub_no [] hd10 (by simp) hq2 hs (by decide) (by decide) (by simp) (by simp [newD]) (sc_new _)).mono ?_
        rintro e w11 ⟨rfl, hd11, hs11, -⟩
        clear hd10 hs
        go_wp2_with fail
        refine (head_o q b2 0 Hd.one w11 hs11).mono ?_
        rintro e w12 ⟨rfl, hx12⟩
        have hx := (hx8.then0 hd11.ext).then0 hx12
        clear hd11 hs11 hx12 hx8
        unfold Hd.val Hd.one
        simp only
        go_wp2
        go_ret
        exact ⟨rfl, hx⟩
  · have e1 : decide h.right = false := by simpa using hr
    rw [e1] at HR
    obtain ⟨x, v, f, bb⟩ := h
    unfold Hd.val at HR ⊢
    simp only at HR ⊢
    clear e1 hr
    go_enter Try.func15, Try.ntmps15
    go_wp2_with fail
    obtain ⟨W0, hW0, hx0, hB0, -, -, -⟩ := HX (.int .i64 x) (.int .i64 v) (.int .i64 f) (.int .i64 bb) (.int .i64 at_) (.int .u8 (c.toNat : Int)) (.bool lose)
    rw [← hW0]
    refine (begin5_any _).mono ?_
    rintro e w1 ⟨rfl, hx⟩
    have hB : Blk w1 w.heap.size 75 [.int .i64 x, .int .i64 v, .int .i64 f, .int .i64 bb] := hB0.keep hx (by simp)
    have hxw : Ext [] w w1 := hx0.then0 hx
    clear hx hx0 hW0 hB0 HX
    have b0 := hB.c 0
    have b1 := hB.c 1
    have b2 := hB.c 2
    have b3 := hB.c 3
    simp only [List.getElem?_cons_zero, List.getElem?_cons_succ] at b0 b1 b2 b3
    go_wp2_with fail
    refine (HR _).mono ?_
    rintro e w2 ⟨rfl, hx2⟩
    replace hxw := hxw.then0 hx2
    clear b0 b1 b2 b3 hB HR hx2
    go_wp2
    go_ret
    exact ⟨rfl, hxw⟩
end Go.Proofs.Ytpnfgkgloioddaa
