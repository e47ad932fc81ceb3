/- The model's Do: a flip. -/
import Derived.Test.YtpnfgkgloioddaaMdo
import Derived.BigRegion
import Derived.Test.YtpnfgkgloioddaaStep
namespace Go.Proofs.Ytpnfgkgloioddaa
open Go.RowKit
set_option linter.unusedVariables false
set_option linter.unusedSimpArgs false

theorem MdIn.flip {w : World} {m gs gg gh : Nat} {vn : Value} {n : Nat} {D : Dv} (h : MdIn w m gs gg gh vn n D) (i : Nat) (v : List UInt8) : MdIn ((w.setCell ⟨gh, i, none⟩ (.bool true)).setCell ⟨gs, i, none⟩ (str v)) m gs gg gh vn n { D with hurt := setF D.hurt i true, safe := setF D.safe i v } :=
  (h.setHurt i true).setSafe i v
theorem cat3 (l : List UInt8) (j : Nat) (c : UInt8) (hj : j < l.length) : l.take j ++ [l[j] ^^^ c] ++ l.drop (j + 1) = l.set j (l[j] ^^^ c) := by
  rw [List.set_eq_take_append_cons_drop, if_pos hj]; simp
set_option maxRecDepth 100000 in
set_option maxHeartbeats 20000000 in
theorem mdo_flip (m gs gg gh : Nat) (vn : Value) (n : Nat) (D : Dv) (a : Ac) (w : World) (h : MdIn w m gs gg gh vn n D) (hk : acK a = 3) (hok : DvOk D) :
    Calls Try.prog 35 #[.pointer (some ⟨m, 0, none⟩), a.val] w fun e w' => e = .returned (.int .i64 (actE a D)) ∧ MdTo w w' m gs gg gh vn n (actD a D) := by
  have HE : Hid (actE a D = 0) := by show _ = _; simp [actE, hk]
  have HD : Hid (actD a D = flipD a.block a.n a.bits D) := by show _ = _; simp [actD, hk]
  have hsz := h.size
  have hq := acK_eq a
  rw [hk] at hq
  obtain ⟨k, b, x, s, c⟩ := a
  unfold Ac.val
  simp only at hq HD ⊢
  have hq2 : (IntKind.u64.wrap k).tmod 6 = 3 := hq
  clear hk hq
  have hal : Ext [] w (w.alloc (.cells #[.int .i64 k, .int .i64 b, .int .i64 x, .string ⟨s.toArray⟩, .int .u8 (c.toNat : Int)] 59)) := (Ext.refl _ _).alloc _
  have hQ : Blk (w.alloc (.cells #[.int .i64 k, .int .i64 b, .int .i64 x, .string ⟨s.toArray⟩, .int .u8 (c.toNat : Int)] 59)) w.heap.size 59 [.int .i64 k, .int .i64 b, .int .i64 x, str s, .int .u8 (c.toNat : Int)] := Blk.newg (C := #[.int .i64 k, .int .i64 b, .int .i64 x, .string ⟨s.toArray⟩, .int .u8 (c.toNat : Int)]) rfl
  have hqm : w.heap.size ≠ m ∧ w.heap.size ≠ gs ∧ w.heap.size ≠ gg ∧ w.heap.size ≠ gh := by have := h.lts; omega
  have hM := h.keep0 hal
  clear h
  go_enter Try.func35, Try.ntmps35
  go_wp2_with fail
  obtain ⟨W, hW⟩ : ∃ W, W = w.alloc (.cells #[.int .i64 k, .int .i64 b, .int .i64 x, .string ⟨s.toArray⟩, .int .u8 (c.toNat : Int)] 59) := ⟨_, rfl⟩
  obtain ⟨q, hqq⟩ : ∃ q, q = w.heap.size := ⟨_, rfl⟩
  rw [← hW, ← hqq] at hQ
  rw [← hW] at hal hM
  rw [← hqq] at hqm
  rw [← hW, ← hqq]
  clear hW hqq
  have q0 := hQ.c 0
  have q1 := hQ.c 1
  have q2 := hQ.c 2
  have q3 := hQ.c 3
  have q4 := hQ.c 4
  have ql := hQ.lt
  simp only [List.getElem?_cons_zero, List.getElem?_cons_succ] at q0 q1 q2 q3 q4
  obtain ⟨c0, c1, c2, c3, c4, c5, c6⟩ := hM.c
  obtain ⟨hml, hsl, hgl, hhl, hvl⟩ := hM.lts
  have cI : ∀ j, Calls Try.prog 60 #[.pointer (some ⟨m, 0, none⟩), .int .i64 b] (W.drewN j) fun e w' => e = .returned (.bool (decide (0 ≤ b ∧ b < (n : Int)))) ∧ w' = W.drewN j := fun j =>
    (min_any m gs gg gh vn n D b _ (hM.keep0 ((Ext.refl _ _).drewN j))).mono fun e w' ⟨h1, h2⟩ => ⟨h1, h2.symm⟩
  by_cases hr : 0 ≤ b ∧ b < (n : Int)
  · have e1 : decide (0 ≤ b ∧ b < (n : Int)) = true := by simpa using hr
    rw [e1] at cI
    obtain ⟨i, rfl⟩ : ∃ i : Nat, b = (i : Int) := ⟨b.toNat, by omega⟩
    have hi : i < n := by omega
    have s0 : W.cell? ⟨gs, i, none⟩ = some (str (D.safe i)) := by rw [hM.safe.c i, row_get _ _ _ hi]
    have u0 : W.cell? ⟨gh, i, none⟩ = some (.bool (D.hurt i)) := by rw [hM.hurt.c i, row_get _ _ _ hi]
    have hl := hok.safe i
    have HX : Hid (flipD i x c D = if D.safe i ≠ [] ∧ c ≠ 0 ∧ D.hurt i = false then { D with hurt := setF D.hurt i true, safe := setF D.safe i (flipL (D.safe i) x c) } else D) := by
      show _ = _
      unfold flipD
      by_cases hc : D.safe i ≠ [] ∧ c ≠ 0 ∧ D.hurt i = false
      · rw [if_pos ⟨by omega, by omega, hc.1, hc.2.1, hc.2.2⟩, if_pos hc]
      · rw [if_neg (fun h => hc ⟨h.2.2.1, h.2.2.2.1, h.2.2.2.2⟩), if_neg hc]
    obtain ⟨l, hll⟩ : ∃ l, l = D.safe i := ⟨_, rfl⟩
    obtain ⟨hu, hhu⟩ : ∃ u, u = D.hurt i := ⟨_, rfl⟩
    rw [← hll] at s0 hl HX
    rw [← hhu] at u0 HX
    clear e1 hr hsz hll hhu hok
    cases l with
    | nil =>
      have HX2 : Hid (flipD i x c D = D) := by show _ = _; rw [HX.out, if_neg (fun h => h.1 rfl)]
      clear HX
      go_quiet ((go_at_call 60; refine Calls.quiet_of_same (cI _)))
      go_wp2
      go_ret
      rw [HE.out, HD.out, HX2.out]
      exact ⟨rfl, MdTo.pre (MdTo.of ((Ext.refl _ _).drewN _) (hM.keep0 ((Ext.refl _ _).drewN _))) hal⟩
    | cons y l =>
      by_cases hc : c = 0
      · subst hc
        have HX2 : Hid (flipD i x 0 D = D) := by show _ = _; rw [HX.out, if_neg (fun h => h.2.1 rfl)]
        clear HX
        go_quiet ((go_at_call 60; refine Calls.quiet_of_same (cI _)))
        go_wp2
        go_ret
        rw [HE.out, HD.out, HX2.out]
        exact ⟨rfl, MdTo.pre (MdTo.of ((Ext.refl _ _).drewN _) (hM.keep0 ((Ext.refl _ _).drewN _))) hal⟩
      · have hcn : ¬ (c.toNat : Int) = 0 := by
          intro h
          apply hc
          apply UInt8.toNat_inj.1
          have : (0 : UInt8).toNat = 0 := rfl
          omega
        have g1 : decide ((c.toNat : Int) = 0) = false := by simpa using hcn
        have g2 : ((c.toNat : Int) == 0) = false := by simpa using hcn
        have g3 : ¬ c.toNat = 0 := by omega
        have g4 : decide (c.toNat = 0) = false := by simpa using g3
        have g5 : decide (c = 0) = false := by simpa using hc
        cases hu with
        | true =>
          have HX2 : Hid (flipD i x c D = D) := by show _ = _; rw [HX.out, if_neg (fun h => by cases h.2.2)]
          clear HX
          go_quiet ((go_at_call 60; refine Calls.quiet_of_same (cI _)))
          go_wp2
          go_ret
          rw [HE.out, HD.out, HX2.out]
          exact ⟨rfl, MdTo.pre (MdTo.of ((Ext.refl _ _).drewN _) (hM.keep0 ((Ext.refl _ _).drewN _))) hal⟩
        | false =>
          have HX2 : Hid (flipD i x c D = { D with hurt := setF D.hurt i true, safe := setF D.safe i (flipL (y :: l) x c) }) := by show _ = _; rw [HX.out, if_pos ⟨by simp, hc, rfl⟩]
          clear HX
          go_quiet ((go_at_call 60; refine Calls.quiet_of_same (cI _)))
          go_wp2_with fail
          obtain ⟨L, hL⟩ : ∃ L, L = y :: l := ⟨_, rfl⟩
          have hL0 : 0 < L.length := by rw [hL]; simp
          have hM1 := hM.keep0 ((Ext.refl [] W).drewN nq)
          have hQ1 := hQ.keep ((Ext.refl [] W).drewN nq) (by simp)
          have hal1 : Ext [] w (W.drewN nq) := hal.drewN nq
          have s1 : (W.drewN nq).cell? ⟨gs, i, none⟩ = some (str L) := by rw [hL]; exact s0
          have u1 : (W.drewN nq).cell? ⟨gh, i, none⟩ = some (.bool false) := u0
          obtain ⟨W1, hW1⟩ : ∃ X, X = W.drewN nq := ⟨_, rfl⟩
          rw [← hW1] at hM1 hQ1 hal1 s1 u1
          rw [← hW1]
          rw [← hL] at HX2 hl
          clear hW1 hL c0 c1 c2 c3 c4 c5 c6 q0 q1 q2 q3 q4 ql hml hsl hgl hhl hvl s0 u0 cI hM hQ hal
          obtain ⟨c0, c1, c2, c3, c4, c5, c6⟩ := hM1.c
          obtain ⟨hml, hsl, hgl, hhl, hvl⟩ := hM1.lts
          have q1 := hQ1.c 1
          have q2 := hQ1.c 2
          have q4 := hQ1.c 4
          have ql := hQ1.lt
          simp only [List.getElem?_cons_zero, List.getElem?_cons_succ] at q1 q2 q4
          have n1 : ¬ gs = m := hM1.n1
          have n2 : ¬ gh = m := hM1.n3
          have n3 : ¬ gs = gh := hM1.n13
          have n1' : ¬ m = gs := Ne.symm hM1.n1
          have n2' : ¬ m = gh := Ne.symm hM1.n3
          have n3' : ¬ gh = gs := Ne.symm hM1.n13
          have n4 : ¬ q = gs := hqm.2.1
          have n5 : ¬ q = gh := hqm.2.2.2
          have n4' : ¬ gs = q := Ne.symm hqm.2.1
          have n5' : ¬ gh = q := Ne.symm hqm.2.2.2
          have sf := hM1.safe.f i
          have uf := hM1.hurt.f i
          obtain ⟨j, hj⟩ : ∃ j, j = uint x % L.length := ⟨_, rfl⟩
          have hjl : j < L.length := by rw [hj]; exact Nat.mod_lt _ hL0
          have er : (IntKind.u64.wrap x).tmod (L.length : Int) = (j : Int) := by
            rw [hj, IntKind.wrap_u64, Int.tmod_eq_emod_of_nonneg (Int.emod_nonneg _ (by omega)), Int.natCast_emod]
            congr 1
            unfold uint
            omega
          have hfl : Hid (flipL L x c = L.take j ++ [L[j] ^^^ c] ++ L.drop (j + 1)) := by
            show _ = _
            rw [cat3 L j c hjl]
            unfold flipL
            rw [← hj]
            have : L.getD j 0 = L[j] := by simp [List.getD, hjl]
            rw [this]
          have i0 : ∀ X, (Instr.index 9 (str L) (.int .i64 (j : Int))).run Try.prog X = .ok (.int .u8 (L[j].toNat : Int)) X := fun X => run_str_at _ L j X Try.underlying9 hjl
          have hex : ByteArray.extract ⟨L.toArray⟩ 0 j = ⟨(L.take j).toArray⟩ := take_extract L j (by omega)
          have hey : ByteArray.extract ⟨L.toArray⟩ (j + 1) L.length = ⟨(L.drop (j + 1)).toArray⟩ := drop_extract L (j + 1) (by omega)
          have x8 := b8_xor L[j] c
          obtain ⟨z0, hz0⟩ : ∃ z, z = L[j] := ⟨_, rfl⟩
          rw [← hz0] at i0 x8 hfl
          obtain ⟨z, hz⟩ : ∃ z, z = z0 ^^^ c := ⟨_, rfl⟩
          rw [← hz] at x8 hfl
          have hcv : ∀ X : World, (convert 43 9 (.slice (some ⟨X.heap.size, 0, none⟩) 1 1)).run Try.prog (X.alloc (.cells #[.int .u8 (z.toNat : Int)] 5)) = .ok (.string ⟨[z].toArray⟩) (X.alloc (.cells #[.int .u8 (z.toNat : Int)] 5)) := fun X => run_str1 X z
          have hj1 : (j : Int) < (L.length : Int) := by omega
          have hj0 : (0 : Int) ≤ (j : Int) := by omega
          have hlz : ¬ (L.length : Int) = 0 := by omega
          clear hj hz0 hz g1 g2 g3 g4 g5 hcn
          go_region
          all_goals (
            go_wp2
            go_region
            all_goals (
              go_wp2_with fail
              have hM2 := (hM1.setHurt i true).keep0 ((((Ext.refl [] (W1.setCell ⟨gh, i, none⟩ (.bool true))).drew).drew))
              have hX2 : Ext (mdF m gs gg gh vn) W1 (W1.setCell ⟨gh, i, none⟩ (.bool true)).drew.drew := ((ext_gh _ _).drew).drew
              have hqF : q ∉ [gh] := by simp [n5]
              have hQ2 : Blk (W1.setCell ⟨gh, i, none⟩ (.bool true)).drew.drew q 59 [.int .i64 k, .int .i64 (i : Int), .int .i64 x, str s, .int .u8 (c.toNat : Int)] := hQ1.keep ((((Ext.refl [gh] W1).setCell (p := ⟨gh, i, none⟩) (.inl (by simp)) _).drew).drew) hqF
              obtain ⟨W2, hW2⟩ : ∃ X, X = (W1.setCell ⟨gh, i, none⟩ (.bool true)).drew.drew := ⟨_, rfl⟩
              rw [← hW2] at hM2 hX2 hQ2
              rw [← hW2]
              clear hW2 c0 c1 c2 c3 c4 c5 c6 q1 q2 q4 ql sf uf hml hsl hgl hhl hvl s1 u1 hM1 hQ1
              have c1 := hM2.c.2.1
              have hml := hM2.lts.1
              have hsl := hM2.lts.2.1
              have s1 : W2.cell? ⟨gs, i, none⟩ = some (str (D.safe i)) := by rw [hM2.safe.c i, row_get _ _ _ hi]
              have sf := hM2.safe.f i
              have q1 := hQ2.c 1
              have q4 := hQ2.c 4
              have ql := hQ2.lt
              simp only [List.getElem?_cons_zero, List.getElem?_cons_succ] at q1 q4
              have hcv2 : (convert 43 9 (.slice (some ⟨W2.heap.size, 0, none⟩) 1 1)).run Try.prog (W2.alloc (.cells #[.int .u8 (z.toNat : Int)] 5)).drew = .ok (.string ⟨[z].toArray⟩) (W2.alloc (.cells #[.int .u8 (z.toNat : Int)] 5)).drew := run_str1 W2.drew z
              have hjle : j ≤ L.length := by omega
              have hjle2 : j + 1 ≤ L.length := by omega
              go_region
              all_goals (
                go_wp2
                go_ret
                rw [HE.out, HD.out, HX2.out, hfl.out]
                refine ⟨rfl, MdTo.pre ?_ hal1⟩
                have hM3 := (hM2.setSafe i (L.take j ++ [z] ++ L.drop (j + 1)))
                have hX3 : Ext (mdF m gs gg gh vn) W1 (W2.setCell ⟨gs, i, none⟩ (str (L.take j ++ [z] ++ L.drop (j + 1)))) := hX2.setCell (p := ⟨gs, i, none⟩) (.inl mdF_mem.1.2.1) _
                have hcat : ((⟨(L.take j).toArray⟩ : ByteArray) ++ ⟨#[z]⟩ ++ ⟨(L.drop (j + 1)).toArray⟩) = ⟨(L.take j ++ [z] ++ L.drop (j + 1)).toArray⟩ := by
                  apply ByteArray.ext
                  simp
                rw [hcat]
                exact MdTo.of ((hX3.alloc _).drew) (hM3.keep0 (((Ext.refl _ _).alloc _).drew)))))
  · have e1 : decide (0 ≤ b ∧ b < (n : Int)) = false := by simpa using hr
    rw [e1] at cI
    have HX2 : Hid (flipD b x c D = D) := by show _ = _; rw [flipD, if_neg (fun h => hr ⟨h.1, by omega⟩)]
    clear e1 hr hsz
    go_quiet ((go_at_call 60; refine Calls.quiet_of_same (cI _)))
    go_wp2
    go_ret
    rw [HE.out, HD.out, HX2.out]
    exact ⟨rfl, MdTo.pre (MdTo.of ((Ext.refl _ _).drewN _) (hM.keep0 ((Ext.refl _ _).drewN _))) hal⟩
end Go.Proofs.Ytpnfgkgloioddaa
