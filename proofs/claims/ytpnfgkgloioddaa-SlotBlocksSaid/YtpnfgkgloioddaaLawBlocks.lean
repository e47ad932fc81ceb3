/- SlotBlocks: the walk. -/
import Derived.Test.YtpnfgkgloioddaaBlkLaw
import Derived.Test.YtpnfgkgloioddaaSlotr
import Derived.Test.YtpnfgkgloioddaaBits
namespace Go.Proofs.Ytpnfgkgloioddaa
open Go.RowKit
set_option linter.unusedVariables false
attribute [local go_sem] i64_and7

set_option maxRecDepth 100000 in
set_option maxHeartbeats 6400000 in
theorem blocks_any {w : World} (r : Rc) (hr : r.wf) (blk : Int) (_ : -9223372036854775808 ≤ blk ∧ blk ≤ 9223372036854775807) (at_ : Int) (hat : -9223372036854775808 ≤ at_ ∧ at_ ≤ 9223372036854775807) (c : UInt8) (lose : Bool) : Calls Try.prog 11 #[r.val, .int .i64 blk, .int .i64 at_, .int .u8 (c.toNat : Int), .bool lose] w fun e w' => e = .returned (.bool true) ∧ Ext [] w w' := by
  obtain ⟨B, hB⟩ : ∃ B, blk % 8 = B := ⟨_, rfl⟩
  have hB0 : 0 ≤ B := by omega
  have hB8 : B < 8 := by omega
  have HL : Hid (r.data.length ≤ 488 → BlkOk r B at_) := fun h => blk_ok r B at_ hB0 hB8 h
  have pa := fun x D w0 W O h hl => swrite_o x D B r w0 W O h hl hr
  have n0 : Hid ((newD 8).since.length = 0) := rfl
  have n1 := swD_since B r (newD 8)
  have n2 := flushD_since (bk1 r B)
  have n3 : Hid (bk1 r B = swD B r (newD 8) ∧ bk2 r B = flushD (bk1 r B)) := ⟨rfl, rfl⟩
  obtain ⟨_, _, _, da⟩ := hr
  obtain ⟨k1, i1, t1, d1⟩ := r
  simp only at da HL
  unfold Rc.val at pa ⊢
  simp only at pa ⊢
  go_enter Try.func11, Try.ntmps11
  go_wp2_with fail
  refine (head4_any _).mono ?_
  rintro e w1 ⟨rfl, hx⟩
  have ra : RcAt w1 w.heap.size ⟨k1, i1, t1, d1⟩ := (RcAt.new w k1 i1 t1 d1).keep hx
  have hxw : Ext [] w w1 := ((Ext.refl _ _).alloc _).then0 hx
  obtain ⟨q, hq⟩ : ∃ q, q = w.heap.size := ⟨_, rfl⟩
  rw [← hq] at ra ⊢
  clear hx hq
  have a3 := ra.c3
  simp only at a3
  by_cases h1 : 488 < d1.length
  · clear pa HL n0 n1 n2 n3
    go_wp2
    go_ret
    exact ⟨rfl, hxw⟩
  obtain ⟨⟨e1, e2, e3⟩, e4, e5⟩ := HL.out (by omega)
  have HE5 : Hid (swE B ⟨k1, i1, t1, d1⟩ (newD 8) = 0 → (srE B (bk1 ⟨k1, i1, t1, d1⟩ B) = 0 ∧ srS B (bk1 ⟨k1, i1, t1, d1⟩ B) = 1 ∧ srR B (bk1 ⟨k1, i1, t1, d1⟩ B) = ⟨k1, i1, t1, d1⟩ ∧ turnE (bk1 ⟨k1, i1, t1, d1⟩ B) = 0) ∧ BlkTail (loseD B (bk2 ⟨k1, i1, t1, d1⟩ B)) B ⟨k1, i1, t1, d1⟩ ∧ (∀ c : UInt8, c ≠ 0 → BlkTail (flipD B at_ c (bk2 ⟨k1, i1, t1, d1⟩ B)) B ⟨k1, i1, t1, d1⟩)) := e5
  clear e5 HL
  go_wp2_with fail
  clear a3
  refine (new_n 8 w1 _ (Ext.refl _ _)).mono ?_
  rintro e w2 ⟨x, rfl, hd, -⟩
  replace hd := hd.o
  have s1 := sread_o x (newD 8) B w1 _ [] hd
  unfold SReadPost at s1
  rw [e1, e2, e3] at s1
  go_wp2_with fail
  refine s1.mono ?_
  rintro e w3 ⟨rfl, hd3, -⟩
  clear s1 hd e1 e2 e3
  unfold Rc.val Rc.zero
  simp only
  have a0 := (ra.keep hd3.ext).c0
  have a1 := (ra.keep hd3.ext).c1
  have a2 := (ra.keep hd3.ext).c2
  have a3 := (ra.keep hd3.ext).c3
  simp only at a0 a1 a2 a3
  have hq3 : q < w3.heap.size := Nat.lt_of_lt_of_le ra.lt hd3.ext.size
  have s2 := pa x (newD 8) w1 (w3.alloc (.cells #[.int .i64 0, .int .i64 0, .int .i64 0, .string ⟨#[]⟩] 40)) [] (hd3.keep ((Ext.refl _ _).alloc _)) (by rw [n0.out]; omega)
  obtain ⟨y, hy⟩ : ∃ y, y = swE B ⟨k1, i1, t1, d1⟩ (newD 8) := ⟨_, rfl⟩
  rw [← hy] at s2 HE5 e4
  clear hy
  go_wp2_with fail
  refine s2.mono ?_
  rintro e w4 ⟨rfl, hd4, -⟩
  clear s2 a0 a1 a2 a3 hd3 hq3
  rw [← n3.out.1] at hd4
  rcases e4 with hy | hy
  · have HE6 := HE5.out hy
    subst hy
    clear HE5
    obtain ⟨⟨f1, f2, f3, f4⟩, HTl, HTf⟩ := HE6
    have s3 := sread_o x (bk1 ⟨k1, i1, t1, d1⟩ B) B w1 _ [] hd4
    unfold SReadPost at s3
    rw [f1, f2, f3] at s3
    go_wp2_with fail
    refine s3.mono ?_
    rintro e w5 ⟨rfl, hd5, -⟩
    clear s3 hd4 f1 f2 f3
    unfold Rc.val
    simp only
    have a0 := (ra.keep hd5.ext).c0
    have a1 := (ra.keep hd5.ext).c1
    have a2 := (ra.keep hd5.ext).c2
    have a3 := (ra.keep hd5.ext).c3
    simp only at a0 a1 a2 a3
    have hq5 : q < w5.heap.size := Nat.lt_of_lt_of_le ra.lt hd5.ext.size
    have s4 := flush_o x (bk1 ⟨k1, i1, t1, d1⟩ B) w1 (w5.alloc (.cells #[.int .i64 k1, .int .i64 i1, .int .i64 t1, .string ⟨d1.toArray⟩] 40)) [] (hd5.keep ((Ext.refl _ _).alloc _))
    rw [f4] at s4
    go_wp2_with fail
    refine s4.mono ?_
    rintro e w6 ⟨rfl, hd6, -⟩
    clear s4 a0 a1 a2 a3 hd5 f4 hq5
    rw [← n3.out.2] at hd6
    clear n0 n1 n2 n3
    cases lose
    · by_cases hc : c = 0
      · have HT := HTf 1 (by decide)
        have s5 := flip_o x (bk2 ⟨k1, i1, t1, d1⟩ B) B at_ 1 w1 w6 [] hd6 hat
        subst hc
        clear HTl HTf
        have s6 : Calls Try.prog 41 #[.pointer (some ⟨x, 0, none⟩), .int .i64 B, .int .i64 at_, .int .u8 1] w6 fun e w' => e = .returned (.tuple #[]) ∧ DevO w1 w' x (flipD B at_ 1 (bk2 ⟨k1, i1, t1, d1⟩ B)) [] ∧ Kept [] w6 w' := s5
        clear s5
        go_wp2_with fail
        refine s6.mono ?_
        rintro e w7 ⟨rfl, hd7, -⟩
        clear s6 hd6
        have HT2 : BlkTail (flipD B at_ 1 (bk2 ⟨k1, i1, t1, d1⟩ B)) B ⟨k1, i1, t1, d1⟩ := HT
        obtain ⟨T, hT⟩ : ∃ T, T = flipD B at_ 1 (bk2 ⟨k1, i1, t1, d1⟩ B) := ⟨_, rfl⟩
        rw [← hT] at hd7 HT2
        clear hT HT
        obtain ⟨⟨e1, e2, e3, e4⟩, ⟨e5, e6, e7, e8⟩, ⟨e9, e10, e11⟩, e12, e13⟩ := HT2
        have s1 := sread_o x T B w1 _ [] hd7
        unfold SReadPost at s1
        rw [e1, e2, e3] at s1
        go_wp2_with fail
        refine s1.mono ?_
        rintro e w8 ⟨rfl, h8, -⟩
        clear s1 hd7 e1 e2 e3
        have a0 := (ra.keep h8.ext).c0
        have a1 := (ra.keep h8.ext).c1
        have a2 := (ra.keep h8.ext).c2
        have a3 := (ra.keep h8.ext).c3
        simp only at a0 a1 a2 a3
        unfold Rc.val Rc.zero
        simp only
        have hq8 : q < w8.heap.size := Nat.lt_of_lt_of_le ra.lt h8.ext.size
        have s2 := pa x T w1 (w8.alloc (.cells #[.int .i64 0, .int .i64 0, .int .i64 0, .string ⟨#[]⟩] 40)) [] (h8.keep ((Ext.refl _ _).alloc _)) (by omega)
        rw [e4] at s2
        go_wp2_with fail
        refine s2.mono ?_
        rintro e w9 ⟨rfl, h9, -⟩
        clear s2 h8 e4 hq8 a0 a1 a2 a3
        obtain ⟨D4, hD4⟩ : ∃ D, D = swD B ⟨k1, i1, t1, d1⟩ T := ⟨_, rfl⟩
        rw [← hD4] at e5 e6 e7 e8 e9 e10 e11 e13 h9
        clear hD4
        have s3 := sread_o x D4 B w1 _ [] h9
        unfold SReadPost at s3
        rw [e5, e6, e7] at s3
        go_wp2_with fail
        refine s3.mono ?_
        rintro e w10 ⟨rfl, h10, -⟩
        clear s3 h9 e5 e6 e7
        unfold Rc.val
        simp only
        obtain ⟨p, hp⟩ : ∃ p, p = w10.heap.size := ⟨_, rfl⟩
        have hp1 : w1.heap.size ≤ p := by have := h10.ext.size; omega
        have h11 : DevO w1 (w10.alloc (.cells #[.int .i64 k1, .int .i64 i1, .int .i64 t1, .string ⟨d1.toArray⟩] 40)) x D4 [p] := h10.add ((Ext.refl _ _).alloc _) p (by omega) (by simp [hp])
        have rp : RcAt (w10.alloc (.cells #[.int .i64 k1, .int .i64 i1, .int .i64 t1, .string ⟨d1.toArray⟩] 40)) p ⟨k1, i1, t1, d1⟩ := by subst hp; exact RcAt.new w10 k1 i1 t1 d1
        have s4 := sread_o x D4 8 w1 _ [p] h11
        unfold SReadPost at s4
        rw [e8] at s4
        go_wp2_with fail
        rw [← hp]
        refine s4.mono ?_
        rintro e w12 ⟨rfl, h12, hx12⟩
        replace rp := rp.keep hx12
        clear s4 h10 h11 hx12 e8 hp
        obtain ⟨ka, ia, ta, da⟩ := srR 8 D4
        generalize srS 8 D4 = sx
        unfold Rc.val
        simp only
        have s5 := fall_o x D4 0 w1 (w12.alloc (.cells #[.int .i64 ka, .int .i64 ia, .int .i64 ta, .string ⟨da.toArray⟩] 40)) [p] (h12.keep ((Ext.refl _ _).alloc _)) (by omega)
        replace rp := rp.keep ((Ext.refl _ _).alloc (.cells #[.int .i64 ka, .int .i64 ia, .int .i64 ta, .string ⟨da.toArray⟩] 40))
        go_wp2_with fail
        refine s5.mono ?_
        rintro e w13 ⟨rfl, h13, hk13⟩
        replace rp : RcAt w13 p ⟨k1, i1, t1, d1⟩ := hk13 p (by simp) _ rp
        clear s5 h12 hk13
        have s6 := flush_o x _ w1 w13 [p] h13
        rw [e9] at s6
        go_wp2_with fail
        refine s6.mono ?_
        rintro e w14 ⟨rfl, h14, hk14⟩
        replace rp : RcAt w14 p ⟨k1, i1, t1, d1⟩ := hk14 p (by simp) _ rp
        clear s6 h13 hk14 e9
        obtain ⟨D6, hD6⟩ : ∃ D, D = flushD (fallD 0 D4) := ⟨_, rfl⟩
        rw [← hD6] at h14 e10 e11 e13
        clear hD6 D4
        have s7 := sread_o x D6 B w1 _ [p] h14
        unfold SReadPost at s7
        rw [e10] at s7
        go_wp2_with fail
        refine s7.mono ?_
        rintro e w15 ⟨rfl, h15, hx15⟩
        replace rp := rp.keep hx15
        clear s7 h14 hx15 e10
        obtain ⟨kb, ib, tb_, db⟩ := srR B D6
        generalize srS B D6 = sy
        unfold Rc.val
        simp only
        have a0 := (ra.keep h15.ext).c0
        have a1 := (ra.keep h15.ext).c1
        have a2 := (ra.keep h15.ext).c2
        have a3 := (ra.keep h15.ext).c3
        simp only at a0 a1 a2 a3
        have b0 := rp.c0
        have b1 := rp.c1
        have b2 := rp.c2
        have b3 := rp.c3
        simp only at b0 b1 b2 b3
        have hq15 : q < w15.heap.size := Nat.lt_of_lt_of_le ra.lt h15.ext.size
        have hp15 : p < w15.heap.size := rp.lt
        have s8 := pa x D6 w1 (w15.alloc (.cells #[.int .i64 kb, .int .i64 ib, .int .i64 tb_, .string ⟨db.toArray⟩] 40)) [p] (h15.keep ((Ext.refl _ _).alloc _)) (by omega)
        rw [e11] at s8
        go_wp2_with fail
        refine s8.mono ?_
        rintro e w16 ⟨rfl, h16, -⟩
        clear s8 h15 e11 a0 a1 a2 a3 b0 b1 b2 b3 ra rp pa
        replace hxw := hxw.then0 h16.ext
        clear h16
        go_wp2
        go_ret
        exact ⟨rfl, hxw⟩
      · have HT := HTf c hc
        have s5 := flip_o x (bk2 ⟨k1, i1, t1, d1⟩ B) B at_ c w1 w6 [] hd6 hat
        clear HTl HTf
        have hc2 : ((c.toNat : Int) == 0) = false := by
          have : c.toNat ≠ 0 := fun h => hc (UInt8.toNat_inj.1 h)
          simp; exact this
        clear hc
        go_wp2_with fail
        refine s5.mono ?_
        rintro e w7 ⟨rfl, hd7, -⟩
        clear s5 hd6
        have HT2 : BlkTail (flipD B at_ c (bk2 ⟨k1, i1, t1, d1⟩ B)) B ⟨k1, i1, t1, d1⟩ := HT
        obtain ⟨T, hT⟩ : ∃ T, T = flipD B at_ c (bk2 ⟨k1, i1, t1, d1⟩ B) := ⟨_, rfl⟩
        rw [← hT] at hd7 HT2
        clear hT HT
        obtain ⟨⟨e1, e2, e3, e4⟩, ⟨e5, e6, e7, e8⟩, ⟨e9, e10, e11⟩, e12, e13⟩ := HT2
        have s1 := sread_o x T B w1 _ [] hd7
        unfold SReadPost at s1
        rw [e1, e2, e3] at s1
        go_wp2_with fail
        refine s1.mono ?_
        rintro e w8 ⟨rfl, h8, -⟩
        clear s1 hd7 e1 e2 e3
        have a0 := (ra.keep h8.ext).c0
        have a1 := (ra.keep h8.ext).c1
        have a2 := (ra.keep h8.ext).c2
        have a3 := (ra.keep h8.ext).c3
        simp only at a0 a1 a2 a3
        unfold Rc.val Rc.zero
        simp only
        have hq8 : q < w8.heap.size := Nat.lt_of_lt_of_le ra.lt h8.ext.size
        have s2 := pa x T w1 (w8.alloc (.cells #[.int .i64 0, .int .i64 0, .int .i64 0, .string ⟨#[]⟩] 40)) [] (h8.keep ((Ext.refl _ _).alloc _)) (by omega)
        rw [e4] at s2
        go_wp2_with fail
        refine s2.mono ?_
        rintro e w9 ⟨rfl, h9, -⟩
        clear s2 h8 e4 hq8 a0 a1 a2 a3
        obtain ⟨D4, hD4⟩ : ∃ D, D = swD B ⟨k1, i1, t1, d1⟩ T := ⟨_, rfl⟩
        rw [← hD4] at e5 e6 e7 e8 e9 e10 e11 e13 h9
        clear hD4
        have s3 := sread_o x D4 B w1 _ [] h9
        unfold SReadPost at s3
        rw [e5, e6, e7] at s3
        go_wp2_with fail
        refine s3.mono ?_
        rintro e w10 ⟨rfl, h10, -⟩
        clear s3 h9 e5 e6 e7
        unfold Rc.val
        simp only
        obtain ⟨p, hp⟩ : ∃ p, p = w10.heap.size := ⟨_, rfl⟩
        have hp1 : w1.heap.size ≤ p := by have := h10.ext.size; omega
        have h11 : DevO w1 (w10.alloc (.cells #[.int .i64 k1, .int .i64 i1, .int .i64 t1, .string ⟨d1.toArray⟩] 40)) x D4 [p] := h10.add ((Ext.refl _ _).alloc _) p (by omega) (by simp [hp])
        have rp : RcAt (w10.alloc (.cells #[.int .i64 k1, .int .i64 i1, .int .i64 t1, .string ⟨d1.toArray⟩] 40)) p ⟨k1, i1, t1, d1⟩ := by subst hp; exact RcAt.new w10 k1 i1 t1 d1
        have s4 := sread_o x D4 8 w1 _ [p] h11
        unfold SReadPost at s4
        rw [e8] at s4
        go_wp2_with fail
        rw [← hp]
        refine s4.mono ?_
        rintro e w12 ⟨rfl, h12, hx12⟩
        replace rp := rp.keep hx12
        clear s4 h10 h11 hx12 e8 hp
        obtain ⟨ka, ia, ta, da⟩ := srR 8 D4
        generalize srS 8 D4 = sx
        unfold Rc.val
        simp only
        have s5 := fall_o x D4 0 w1 (w12.alloc (.cells #[.int .i64 ka, .int .i64 ia, .int .i64 ta, .string ⟨da.toArray⟩] 40)) [p] (h12.keep ((Ext.refl _ _).alloc _)) (by omega)
        replace rp := rp.keep ((Ext.refl _ _).alloc (.cells #[.int .i64 ka, .int .i64 ia, .int .i64 ta, .string ⟨da.toArray⟩] 40))
        go_wp2_with fail
        refine s5.mono ?_
        rintro e w13 ⟨rfl, h13, hk13⟩
        replace rp : RcAt w13 p ⟨k1, i1, t1, d1⟩ := hk13 p (by simp) _ rp
        clear s5 h12 hk13
        have s6 := flush_o x _ w1 w13 [p] h13
        rw [e9] at s6
        go_wp2_with fail
        refine s6.mono ?_
        rintro e w14 ⟨rfl, h14, hk14⟩
        replace rp : RcAt w14 p ⟨k1, i1, t1, d1⟩ := hk14 p (by simp) _ rp
        clear s6 h13 hk14 e9
        obtain ⟨D6, hD6⟩ : ∃ D, D = flushD (fallD 0 D4) := ⟨_, rfl⟩
        rw [← hD6] at h14 e10 e11 e13
        clear hD6 D4
        have s7 := sread_o x D6 B w1 _ [p] h14
        unfold SReadPost at s7
        rw [e10] at s7
        go_wp2_with fail
        refine s7.mono ?_
        rintro e w15 ⟨rfl, h15, hx15⟩
        replace rp := rp.keep hx15
        clear s7 h14 hx15 e10
        obtain ⟨kb, ib, tb_, db⟩ := srR B D6
        generalize srS B D6 = sy
        unfold Rc.val
        simp only
        have a0 := (ra.keep h15.ext).c0
        have a1 := (ra.keep h15.ext).c1
        have a2 := (ra.keep h15.ext).c2
        have a3 := (ra.keep h15.ext).c3
        simp only at a0 a1 a2 a3
        have b0 := rp.c0
        have b1 := rp.c1
        have b2 := rp.c2
        have b3 := rp.c3
        simp only at b0 b1 b2 b3
        have hq15 : q < w15.heap.size := Nat.lt_of_lt_of_le ra.lt h15.ext.size
        have hp15 : p < w15.heap.size := rp.lt
        have s8 := pa x D6 w1 (w15.alloc (.cells #[.int .i64 kb, .int .i64 ib, .int .i64 tb_, .string ⟨db.toArray⟩] 40)) [p] (h15.keep ((Ext.refl _ _).alloc _)) (by omega)
        rw [e11] at s8
        go_wp2_with fail
        refine s8.mono ?_
        rintro e w16 ⟨rfl, h16, -⟩
        clear s8 h15 e11 a0 a1 a2 a3 b0 b1 b2 b3 ra rp pa
        replace hxw := hxw.then0 h16.ext
        clear h16
        go_wp2
        go_ret
        exact ⟨rfl, hxw⟩
    · have HT := HTl
      have s5 := lose_o x (bk2 ⟨k1, i1, t1, d1⟩ B) B w1 w6 [] hd6
      clear HTl HTf
      go_wp2_with fail
      refine s5.mono ?_
      rintro e w7 ⟨rfl, hd7, -⟩
      clear s5 hd6
      have HT2 : BlkTail (loseD B (bk2 ⟨k1, i1, t1, d1⟩ B)) B ⟨k1, i1, t1, d1⟩ := HT
      obtain ⟨T, hT⟩ : ∃ T, T = loseD B (bk2 ⟨k1, i1, t1, d1⟩ B) := ⟨_, rfl⟩
      rw [← hT] at hd7 HT2
      clear hT HT
      obtain ⟨⟨e1, e2, e3, e4⟩, ⟨e5, e6, e7, e8⟩, ⟨e9, e10, e11⟩, e12, e13⟩ := HT2
      have s1 := sread_o x T B w1 _ [] hd7
      unfold SReadPost at s1
      rw [e1, e2, e3] at s1
      go_wp2_with fail
      refine s1.mono ?_
      rintro e w8 ⟨rfl, h8, -⟩
      clear s1 hd7 e1 e2 e3
      have a0 := (ra.keep h8.ext).c0
      have a1 := (ra.keep h8.ext).c1
      have a2 := (ra.keep h8.ext).c2
      have a3 := (ra.keep h8.ext).c3
      simp only at a0 a1 a2 a3
      unfold Rc.val Rc.zero
      simp only
      have hq8 : q < w8.heap.size := Nat.lt_of_lt_of_le ra.lt h8.ext.size
      have s2 := pa x T w1 (w8.alloc (.cells #[.int .i64 0, .int .i64 0, .int .i64 0, .string ⟨#[]⟩] 40)) [] (h8.keep ((Ext.refl _ _).alloc _)) (by omega)
      rw [e4] at s2
      go_wp2_with fail
      refine s2.mono ?_
      rintro e w9 ⟨rfl, h9, -⟩
      clear s2 h8 e4 hq8 a0 a1 a2 a3
      obtain ⟨D4, hD4⟩ : ∃ D, D = swD B ⟨k1, i1, t1, d1⟩ T := ⟨_, rfl⟩
      rw [← hD4] at e5 e6 e7 e8 e9 e10 e11 e13 h9
      clear hD4
      have s3 := sread_o x D4 B w1 _ [] h9
      unfold SReadPost at s3
      rw [e5, e6, e7] at s3
      go_wp2_with fail
      refine s3.mono ?_
      rintro e w10 ⟨rfl, h10, -⟩
      clear s3 h9 e5 e6 e7
      unfold Rc.val
      simp only
      obtain ⟨p, hp⟩ : ∃ p, p = w10.heap.size := ⟨_, rfl⟩
      have hp1 : w1.heap.size ≤ p := by have := h10.ext.size; omega
      have h11 : DevO w1 (w10.alloc (.cells #[.int .i64 k1, .int .i64 i1, .int .i64 t1, .string ⟨d1.toArray⟩] 40)) x D4 [p] := h10.add ((Ext.refl _ _).alloc _) p (by omega) (by simp [hp])
      have rp : RcAt (w10.alloc (.cells #[.int .i64 k1, .int .i64 i1, .int .i64 t1, .string ⟨d1.toArray⟩] 40)) p ⟨k1, i1, t1, d1⟩ := by subst hp; exact RcAt.new w10 k1 i1 t1 d1
      have s4 := sread_o x D4 8 w1 _ [p] h11
      unfold SReadPost at s4
      rw [e8] at s4
      go_wp2_with fail
      rw [← hp]
      refine s4.mono ?_
      rintro e w12 ⟨rfl, h12, hx12⟩
      replace rp := rp.keep hx12
      clear s4 h10 h11 hx12 e8 hp
      obtain ⟨ka, ia, ta, da⟩ := srR 8 D4
      generalize srS 8 D4 = sx
      unfold Rc.val
      simp only
      have s5 := fall_o x D4 0 w1 (w12.alloc (.cells #[.int .i64 ka, .int .i64 ia, .int .i64 ta, .string ⟨da.toArray⟩] 40)) [p] (h12.keep ((Ext.refl _ _).alloc _)) (by omega)
      replace rp := rp.keep ((Ext.refl _ _).alloc (.cells #[.int .i64 ka, .int .i64 ia, .int .i64 ta, .string ⟨da.toArray⟩] 40))
      go_wp2_with fail
      refine s5.mono ?_
      rintro e w13 ⟨rfl, h13, hk13⟩
      replace rp : RcAt w13 p ⟨k1, i1, t1, d1⟩ := hk13 p (by simp) _ rp
      clear s5 h12 hk13
      have s6 := flush_o x _ w1 w13 [p] h13
      rw [e9] at s6
      go_wp2_with fail
      refine s6.mono ?_
      rintro e w14 ⟨rfl, h14, hk14⟩
      replace rp : RcAt w14 p ⟨k1, i1, t1, d1⟩ := hk14 p (by simp) _ rp
      clear s6 h13 hk14 e9
      obtain ⟨D6, hD6⟩ : ∃ D, D = flushD (fallD 0 D4) := ⟨_, rfl⟩
      rw [← hD6] at h14 e10 e11 e13
      clear hD6 D4
      have s7 := sread_o x D6 B w1 _ [p] h14
      unfold SReadPost at s7
      rw [e10] at s7
      go_wp2_with fail
      refine s7.mono ?_
      rintro e w15 ⟨rfl, h15, hx15⟩
      replace rp := rp.keep hx15
      clear s7 h14 hx15 e10
      obtain ⟨kb, ib, tb_, db⟩ := srR B D6
      generalize srS B D6 = sy
      unfold Rc.val
      simp only
      have a0 := (ra.keep h15.ext).c0
      have a1 := (ra.keep h15.ext).c1
      have a2 := (ra.keep h15.ext).c2
      have a3 := (ra.keep h15.ext).c3
      simp only at a0 a1 a2 a3
      have b0 := rp.c0
      have b1 := rp.c1
      have b2 := rp.c2
      have b3 := rp.c3
      simp only at b0 b1 b2 b3
      have hq15 : q < w15.heap.size := Nat.lt_of_lt_of_le ra.lt h15.ext.size
      have hp15 : p < w15.heap.size := rp.lt
      have s8 := pa x D6 w1 (w15.alloc (.cells #[.int .i64 kb, .int .i64 ib, .int .i64 tb_, .string ⟨db.toArray⟩] 40)) [p] (h15.keep ((Ext.refl _ _).alloc _)) (by omega)
      rw [e11] at s8
      go_wp2_with fail
      refine s8.mono ?_
      rintro e w16 ⟨rfl, h16, -⟩
      clear s8 h15 e11 a0 a1 a2 a3 b0 b1 b2 b3 ra rp pa
      replace hxw := hxw.then0 h16.ext
      clear h16
      go_wp2
      go_ret
      exact ⟨rfl, hxw⟩
  · subst hy
    replace hxw := hxw.then0 hd4.ext
    clear hd4 pa HE5 n0 n1 n2 n3
    go_wp2
    go_ret
    exact ⟨rfl, hxw⟩
end Go.Proofs.Ytpnfgkgloioddaa
