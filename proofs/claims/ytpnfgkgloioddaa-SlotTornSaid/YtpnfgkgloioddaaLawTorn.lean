/- SlotTorn: the walk. -/
import Derived.Test.YtpnfgkgloioddaaTornLaw
import Derived.Test.YtpnfgkgloioddaaSlotr
namespace Go.Proofs.Ytpnfgkgloioddaa
open Go.RowKit
set_option linter.unusedVariables false

set_option maxHeartbeats 3200000 in
theorem torn_any {w : World} (a : Rc) (ha : a.wf) (b : Rc) (hb : b.wf) (f : Int) (_ : -9223372036854775808 ≤ f ∧ f ≤ 9223372036854775807) (old : Bool) : Calls Try.prog 12 #[a.val, b.val, .int .i64 f, .bool old] w fun e w' => e = .returned (.bool true) ∧ Ext [] w w' := by
  have pa := fun x D w0 W O h hl => swrite_o x D 0 a w0 W O h hl ha
  have pb := fun x D w0 W O h hl => swrite_o x D 0 b w0 W O h hl hb
  have HL : Hid ((old = true → putE a = 0) → putE b = 0 → TornOk (tn3 a b old) f old a b) := torn_law a b f old
  have HZ : Hid ((swE 0 a tn0 = 0 → putE a = 0) ∧ (∀ D, swE 0 b D = 0 → putE b = 0)) := ⟨swE_put, fun D h => swE_put h⟩
  have HS := tn2_since a old
  have HT3 : Hid (tn3 a b old = swD 0 b (tn2 a old)) := rfl
  have HT2 : Hid (tn2 a true = flushD (swD 0 a tn0) ∧ tn2 a false = tn0) := ⟨rfl, rfl⟩
  have HA1 := swD_since 0 a tn0
  have HA0 : tn0.since.length = 0 := rfl
  obtain ⟨_, _, _, da⟩ := ha
  obtain ⟨_, _, _, db⟩ := hb
  obtain ⟨k1, i1, t1, d1⟩ := a
  obtain ⟨k2, i2, t2, d2⟩ := b
  simp only at da db
  unfold Rc.val at pa pb ⊢
  simp only at pa pb ⊢
  go_enter Try.func12, Try.ntmps12
  go_wp2_with fail
  refine (head4_any _).mono ?_
  rintro e w1 ⟨rfl, hx⟩
  have ra : RcAt w1 w.heap.size ⟨k1, i1, t1, d1⟩ := ((RcAt.new w k1 i1 t1 d1).keep ((Ext.refl _ _).alloc _)).keep hx
  have rb : RcAt w1 (w.heap.size + 1) ⟨k2, i2, t2, d2⟩ := by
    have h := (RcAt.new (w.alloc (.cells #[.int .i64 k1, .int .i64 i1, .int .i64 t1, .string ⟨d1.toArray⟩] 40)) k2 i2 t2 d2).keep hx
    rwa [show (w.alloc (.cells #[.int .i64 k1, .int .i64 i1, .int .i64 t1, .string ⟨d1.toArray⟩] 40)).heap.size = w.heap.size + 1 by simp] at h
  have hxw : Ext [] w w1 := (((Ext.refl _ _).alloc _).alloc _).then0 hx
  obtain ⟨q1, hq1⟩ : ∃ q, q = w.heap.size := ⟨_, rfl⟩
  obtain ⟨q2, hq2⟩ : ∃ q, q = w.heap.size + 1 := ⟨_, rfl⟩
  rw [← hq2] at rb ⊢
  rw [← hq1] at ra ⊢
  clear hx hq1 hq2
  have a3 := ra.c3
  have b3 := rb.c3
  have la := ra.lt
  have lb := rb.lt
  simp only at a3 b3
  by_cases h1 : 488 < d1.length
  · clear pa pb HL HS HT3 HT2 HA1 HA0 HZ
    go_wp2
    go_ret
    exact ⟨rfl, hxw⟩
  by_cases h2 : 488 < d2.length
  · clear pa pb HL HS HT3 HT2 HA1 HA0 HZ
    go_wp2
    go_ret
    exact ⟨rfl, hxw⟩
  go_wp2_with fail
  clear a3 b3
  refine (new_n 1 w1 _ (Ext.refl _ _)).mono ?_
  rintro e w2 ⟨x, rfl, hd, -⟩
  replace hd := hd.o
  cases old
  · rw [← show tn2 ⟨k1, i1, t1, d1⟩ false = newD 1 from rfl] at hd
    have b0 := (rb.keep hd.ext).c0
    have b1 := (rb.keep hd.ext).c1
    have b2 := (rb.keep hd.ext).c2
    have b3 := (rb.keep hd.ext).c3
    simp only at b0 b1 b2 b3
    go_wp2_with fail
    refine (pb x _ w1 w2 [] hd (by omega)).mono ?_
    rintro e w5 ⟨rfl, hd5, -⟩
    clear b0 b1 b2 b3
    rw [← HT3.out] at hd5
    obtain ⟨y, hy⟩ : ∃ y, y = swE 0 ⟨k2, i2, t2, d2⟩ (tn2 ⟨k1, i1, t1, d1⟩ false) := ⟨_, rfl⟩
    rw [← hy]
    by_cases hy0 : y = 0
    · have HM := HL.out (fun h => by cases h) (HZ.out.2 _ (hy ▸ hy0))
      subst hy0
      have HM2 := HM
      clear hy HL HZ HM HT3 HT2 HS HA1 HA0 pa pb
      obtain ⟨T, hT⟩ : ∃ T, T = tn3 ⟨k1, i1, t1, d1⟩ ⟨k2, i2, t2, d2⟩ false := ⟨_, rfl⟩
      rw [← hT] at hd5 HM2
      clear hT
      go_wp2_with fail
      refine (crash_n x T _ _ _ [f] w1 _ (hd5.n.keep ((Ext.refl [] _).alloc _)) (Rd.fates1 f)).mono ?_
      rintro e w6 ⟨x2, rfl, hd6, -⟩
      clear hd5
      go_wp2_with fail
      refine (sread_o x2 (crashD [f] T) 0 w1 w6 [] hd6.o).mono ?_
      rintro e w7 ⟨rfl, hd7, -⟩
      clear hd6
      rw [HM2.1]
      have a0 := (ra.keep hd7.ext).c0
      have a1 := (ra.keep hd7.ext).c1
      have a2 := (ra.keep hd7.ext).c2
      have a3 := (ra.keep hd7.ext).c3
      simp only at a0 a1 a2 a3
      have b0 := (rb.keep hd7.ext).c0
      have b1 := (rb.keep hd7.ext).c1
      have b2 := (rb.keep hd7.ext).c2
      have b3 := (rb.keep hd7.ext).c3
      simp only at b0 b1 b2 b3
      have hxz : Ext [] w w7 := hxw.then0 hd7.ext
      have hq1 : q1 < w7.heap.size := Nat.lt_of_lt_of_le ra.lt hd7.ext.size
      have hq2 : q2 < w7.heap.size := Nat.lt_of_lt_of_le rb.lt hd7.ext.size
      clear hd7 la lb
      by_cases hf1 : f = 1
      · rw [(HM2.2.1 hf1).1, (HM2.2.1 hf1).2]
        unfold Rc.val
        simp only
        subst hf1
        clear HM2
        go_wp2
        go_ret
        exact ⟨rfl, hxz.alloc _⟩
      · by_cases hf2 : f = 2
        · rw [(HM2.2.2.2.2 hf2).1, (HM2.2.2.2.2 hf2).2]
          unfold Rc.val Rc.zero
          simp only
          subst hf2
          clear HM2
          go_wp2
          go_ret
          exact ⟨rfl, hxz.alloc _⟩
        · rw [HM2.2.2.2.1 hf1 hf2 rfl]
          obtain ⟨k3, i3, t3, d3⟩ := srR 0 (crashD [f] T)
          unfold Rc.val
          simp only
          clear HM2
          go_wp2
          go_ret
          exact ⟨rfl, hxz.alloc _⟩
    · clear hy HL HZ HT3 HT2 HS HA1 HA0 pa pb la lb
      have hxz : Ext [] w w5 := hxw.then0 hd5.ext
      clear hd5
      go_wp2
      go_ret
      exact ⟨rfl, hxz⟩
  · rw [← show tn0 = newD 1 from rfl] at hd
    have a0 := (ra.keep hd.ext).c0
    have a1 := (ra.keep hd.ext).c1
    have a2 := (ra.keep hd.ext).c2
    have a3 := (ra.keep hd.ext).c3
    simp only at a0 a1 a2 a3
    go_wp2_with fail
    refine (pa x _ w1 w2 [] hd (by omega)).mono ?_
    rintro e w3 ⟨rfl, hd3, -⟩
    clear a0 a1 a2 a3 hd
    by_cases hx0 : swE 0 ⟨k1, i1, t1, d1⟩ tn0 = 0
    · rw [hx0]
      go_wp2_with fail
      refine (flush_o x _ w1 w3 [] hd3).mono ?_
      rintro e w4 ⟨rfl, hd4, -⟩
      clear hd3
      rw [← HT2.out.1] at hd4
      have b0 := (rb.keep hd4.ext).c0
      have b1 := (rb.keep hd4.ext).c1
      have b2 := (rb.keep hd4.ext).c2
      have b3 := (rb.keep hd4.ext).c3
      simp only at b0 b1 b2 b3
      go_wp2_with fail
      refine (pb x _ w1 w4 [] hd4 (by omega)).mono ?_
      rintro e w5 ⟨rfl, hd5, -⟩
      clear b0 b1 b2 b3
      rw [← HT3.out] at hd5
      obtain ⟨y, hy⟩ : ∃ y, y = swE 0 ⟨k2, i2, t2, d2⟩ (tn2 ⟨k1, i1, t1, d1⟩ true) := ⟨_, rfl⟩
      rw [← hy]
      by_cases hy0 : y = 0
      · have HM := HL.out (fun _ => HZ.out.1 hx0) (HZ.out.2 _ (hy ▸ hy0))
        subst hy0
        have HM2 := HM
        clear hy HL HZ HM HT3 HT2 HS HA1 HA0 pa pb
        obtain ⟨T, hT⟩ : ∃ T, T = tn3 ⟨k1, i1, t1, d1⟩ ⟨k2, i2, t2, d2⟩ true := ⟨_, rfl⟩
        rw [← hT] at hd5 HM2
        clear hT
        go_wp2_with fail
        refine (crash_n x T _ _ _ [f] w1 _ (hd5.n.keep ((Ext.refl [] _).alloc _)) (Rd.fates1 f)).mono ?_
        rintro e w6 ⟨x2, rfl, hd6, -⟩
        clear hd5
        go_wp2_with fail
        refine (sread_o x2 (crashD [f] T) 0 w1 w6 [] hd6.o).mono ?_
        rintro e w7 ⟨rfl, hd7, -⟩
        clear hd6
        rw [HM2.1]
        have a0 := (ra.keep hd7.ext).c0
        have a1 := (ra.keep hd7.ext).c1
        have a2 := (ra.keep hd7.ext).c2
        have a3 := (ra.keep hd7.ext).c3
        simp only at a0 a1 a2 a3
        have b0 := (rb.keep hd7.ext).c0
        have b1 := (rb.keep hd7.ext).c1
        have b2 := (rb.keep hd7.ext).c2
        have b3 := (rb.keep hd7.ext).c3
        simp only at b0 b1 b2 b3
        have hxz : Ext [] w w7 := hxw.then0 hd7.ext
        have hq1 : q1 < w7.heap.size := Nat.lt_of_lt_of_le ra.lt hd7.ext.size
        have hq2 : q2 < w7.heap.size := Nat.lt_of_lt_of_le rb.lt hd7.ext.size
        clear hd7 la lb
        by_cases hf1 : f = 1
        · rw [(HM2.2.1 hf1).1, (HM2.2.1 hf1).2]
          unfold Rc.val
          simp only
          subst hf1
          clear HM2
          go_wp2
          go_ret
          exact ⟨rfl, hxz.alloc _⟩
        · by_cases hf2 : f = 2
          · rw [(HM2.2.2.2.2 hf2).1, (HM2.2.2.2.2 hf2).2]
            unfold Rc.val Rc.zero
            simp only
            subst hf2
            clear HM2
            go_wp2
            go_ret
            exact ⟨rfl, hxz.alloc _⟩
          · rw [(HM2.2.2.1 hf1 hf2 rfl).1, (HM2.2.2.1 hf1 hf2 rfl).2]
            unfold Rc.val
            simp only
            clear HM2
            go_wp2
            go_ret
            exact ⟨rfl, hxz.alloc _⟩
      · clear hy HL HZ HT3 HT2 HS HA1 HA0 pa pb la lb
        have hxz : Ext [] w w5 := hxw.then0 hd5.ext
        clear hd5
        go_wp2
        go_ret
        exact ⟨rfl, hxz⟩
    · generalize swE 0 ⟨k1, i1, t1, d1⟩ tn0 = y at hx0 ⊢
      clear HL HZ HT3 HT2 HS HA1 HA0 pa pb la lb
      have hxz : Ext [] w w3 := hxw.then0 hd3.ext
      clear hd3
      go_wp2
      go_ret
      exact ⟨rfl, hxz⟩
end Go.Proofs.Ytpnfgkgloioddaa
