/- HeadAgain: the walk. -/
import Derived.Test.YtpnfgkgloioddaaAgLaw
import Derived.Test.YtpnfgkgloioddaaRegInvG
namespace Go.Proofs.Ytpnfgkgloioddaa
open Go.RowKit
set_option linter.unusedVariables false
set_option linter.unusedSimpArgs false
attribute [local go_sem] i64_and1 i64_and7

theorem scrub_fine {q b : Nat} {t : Int} {h : Hd} {D : Dv} {O : List Nat} {w0 w : World} (hd : DevO w0 w b D O) (hq : q ∈ O) (hq0 : w0.heap.size ≤ q) (hs : StAt w q b t h) (hm : Mended D t h) :
    Calls Try.prog 47 #[.pointer (some ⟨q, 0, none⟩)] w fun e w' => e = .returned (.int .i64 0) ∧ DevO w0 w' b (scD t h D) O ∧ ∃ u, StAt w' q b u h := by
  refine (scrub_o q b t h D O [] w0 w hd hq hq0 hs hm.t0 hm.t1 (by simp) hm.since).mono ?_
  intro e w' hp
  have hf := hm.fine
  unfold ScPost at hp
  unfold scD
  split at hp
  · rename_i h1
    rw [if_pos h1] at hf ⊢
    obtain ⟨p1, p2, p3, _⟩ := hp
    rw [hf] at p1
    exact ⟨p1, p2, by rw [if_pos hf, if_pos hf] at p3; exact ⟨_, p3⟩⟩
  · rename_i h1
    rw [if_neg h1] at hf ⊢
    obtain ⟨p1, p2, p3, _⟩ := hp
    rw [hf] at p1
    exact ⟨p1, p2, _, p3⟩
theorem if4 {α : Type} {p q r s : Prop} [Decidable p] [Decidable q] [Decidable r] [Decidable s] (h : ¬ (p ∧ q ∧ r ∧ s)) (A B : α) : (if p then if q then if r then if s then A else B else B else B else B) = B := by
  by_cases h1 : p
  · rw [if_pos h1]
    by_cases h2 : q
    · rw [if_pos h2]
      by_cases h3 : r
      · rw [if_pos h3]
        by_cases h4 : s
        · exact absurd ⟨h1, h2, h3, h4⟩ h
        · rw [if_neg h4]
      · rw [if_neg h3]
    · rw [if_neg h2]
  · rw [if_neg h1]
theorem crash_w (b : Nat) (D : Dv) (a : Option Addr) (len cap : Nat) (fs : List Int) (w0 w : World) (O : List Nat) (h : DevO w0 w b D O) (hR : Rd w 1 (.slice a len cap) len (fs.map (Value.int .i64))) :
    Calls Try.prog 21 #[.pointer (some ⟨b, 0, none⟩), .slice a len cap] w (NewN w w (crashD fs D)) := by
  obtain ⟨⟨F, hF, hl, ho⟩, hx, hok⟩ := h
  exact (crash_any b F D a len cap fs w hF hok hR).mono fun e w' ⟨b', F', he, hd, hl', hx2⟩ => ⟨b', he, ⟨⟨F', hd, hl'⟩, hx2, hok.crash fs⟩, hx2⟩
def agΦ1 (q3 pw pa pb : Nat) (x v f z x1 v1 f1 z1 x2 v2 f2 z2 : Int) (n : Nat) (y : Value) (w : World) : Prop :=
  match n with
  | 0 => y = .int .i64 0
  | 1 => y = .bool true
  | 2 => y = .bool true
  | 3 => y = .pointer (some ⟨q3, 0, none⟩)
  | 4 => y = .agg #[.int .i64 x, .int .i64 v, .int .i64 f, .int .i64 z]
  | 5 => y = .agg #[.int .i64 x, .int .i64 v, .int .i64 f, .int .i64 z]
  | 6 => y = .bool true
  | 7 => y = .bool true
  | 8 => y = .bool true
  | 9 => y = .agg #[.int .i64 x, .int .i64 v, .int .i64 f, .int .i64 z]
  | 10 => y = .agg #[.int .i64 x, .int .i64 v, .int .i64 f, .int .i64 z]
  | 11 => y = .bool true
  | 12 => y = .bool true
  | 13 => y = undef
  | 14 => y = undef
  | 15 => y = undef
  | 16 => y = .bool true
  | 17 => y = .bool true
  | 18 => y = .bool true
  | _ => True
theorem agΦ1_keep (q3 pw pa pb : Nat) (x v f z x1 v1 f1 z1 x2 v2 f2 z2 : Int) (n : Nat) (y : Value) (w w' : World) (h : agΦ1 q3 pw pa pb x v f z x1 v1 f1 z1 x2 v2 f2 z2 n y w) (hx : Ext [] w w') : agΦ1 q3 pw pa pb x v f z x1 v1 f1 z1 x2 v2 f2 z2 n y w' := by
  unfold agΦ1 at h ⊢
  split at h <;> exact h
def agΦ2 (q3 pw pa pb : Nat) (x v f z x1 v1 f1 z1 x2 v2 f2 z2 : Int) (n : Nat) (y : Value) (w : World) : Prop :=
  match n with
  | 0 => y = .int .i64 0
  | 1 => y = .bool true
  | 2 => y = .bool true
  | 3 => y = .pointer (some ⟨q3, 0, none⟩)
  | 4 => y = .agg #[.int .i64 x, .int .i64 v, .int .i64 f, .int .i64 z]
  | 5 => y = .agg #[.int .i64 x, .int .i64 v, .int .i64 f, .int .i64 z]
  | 6 => y = .bool true
  | 7 => y = .bool true
  | 8 => y = .bool true
  | 9 => y = .agg #[.int .i64 x, .int .i64 v, .int .i64 f, .int .i64 z]
  | 10 => y = .agg #[.int .i64 x1, .int .i64 v1, .int .i64 f1, .int .i64 z1]
  | 11 => y = .bool false
  | 12 => y = .bool false
  | 13 => y = .agg #[.int .i64 x, .int .i64 v, .int .i64 f, .int .i64 z]
  | 14 => y = .agg #[.int .i64 x, .int .i64 v, .int .i64 f, .int .i64 z]
  | 15 => y = .bool true
  | 16 => y = .bool true
  | 17 => y = .bool true
  | 18 => y = .bool true
  | _ => True
theorem agΦ2_keep (q3 pw pa pb : Nat) (x v f z x1 v1 f1 z1 x2 v2 f2 z2 : Int) (n : Nat) (y : Value) (w w' : World) (h : agΦ2 q3 pw pa pb x v f z x1 v1 f1 z1 x2 v2 f2 z2 n y w) (hx : Ext [] w w') : agΦ2 q3 pw pa pb x v f z x1 v1 f1 z1 x2 v2 f2 z2 n y w' := by
  unfold agΦ2 at h ⊢
  split at h <;> exact h
set_option maxRecDepth 100000 in
set_option maxHeartbeats 20000000 in
theorem again_any {w : World} (a : Hd) (_ : True) (b : Hd) (_ : True) (fall : Int) (_ : -9223372036854775808 ≤ fall ∧ fall ≤ 9223372036854775807) (fa : Option Addr) (len cap : Nat) (fs : List Int) (hR : Rd w 1 (.slice fa len cap) len (fs.map (Value.int .i64))) (_ : ∀ n ∈ fs, (Lit.int IntKind.i64 n).wf = true)
    (which : Int) (_ : -9223372036854775808 ≤ which ∧ which ≤ 9223372036854775807) : Calls Try.prog 16 #[a.val, b.val, .int .i64 fall, .slice fa len cap, .int .i64 which] w fun e w' => e = .returned (.bool true) ∧ Ext [] w w' := by
  have HRa := fun W => right_any a W
  have HRb := fun W => right_any b W
  have HX : ∀ a1 a2 a3 a4 b1 b2 b3 b4 : Value, ∃ W0, W0 = (w.alloc (.cells #[a1, a2, a3, a4] 75)).alloc (.cells #[b1, b2, b3, b4] 75) ∧ Ext [] w W0 ∧ Blk W0 w.heap.size 75 [a1, a2, a3, a4] ∧ Blk W0 (w.heap.size + 1) 75 [b1, b2, b3, b4] := fun a1 a2 a3 a4 b1 b2 b3 b4 =>
    ⟨_, rfl, ((Ext.refl _ _).alloc _).alloc _, (Blk.new w 75 #[a1, a2, a3, a4]).alloc _, Blk.newg (C := #[b1, b2, b3, b4]) (by simp)⟩
  have HO : Hid (openE (newD 2) = 0 ∧ (osK (newD 2) 2).h = Hd.one ∧ (osK (newD 2) 2).turn = 0) := open_new (by decide)
  have HVa : Hid (a.val = .agg #[.int .i64 a.term, .int .i64 a.vote, .int .i64 a.first, .int .i64 a.base]) := rfl
  have HVb : Hid (b.val = .agg #[.int .i64 b.term, .int .i64 b.vote, .int .i64 b.first, .int .i64 b.base]) := rfl
  rw [HVa.out] at HRa ⊢
  rw [HVb.out] at HRb ⊢
  by_cases ha : a.right
  rotate_left
  · have e1 : decide a.right = false := by simpa using ha
    rw [e1] at HRa
    obtain ⟨x1, v1, f1, z1⟩ := a
    obtain ⟨x2, v2, f2, z2⟩ := b
    simp only at HRa ⊢
    clear e1 ha HRb HVa HVb HO
    go_enter Try.func16, Try.ntmps16
    go_wp2_with fail
    obtain ⟨W0, hW0, hx0, hB1, hB2⟩ := HX (.int .i64 x1) (.int .i64 v1) (.int .i64 f1) (.int .i64 z1) (.int .i64 x2) (.int .i64 v2) (.int .i64 f2) (.int .i64 z2)
    rw [← hW0]
    refine (begin5_any _).mono ?_
    rintro e w1 ⟨rfl, hx⟩
    have hB := hB1.keep hx (by simp)
    have hxw : Ext [] w w1 := hx0.then0 hx
    clear hx hx0 hW0 hB1 hB2 HX
    have b0 := hB.c 0
    have b1 := hB.c 1
    have b2 := hB.c 2
    have b3 := hB.c 3
    simp only [List.getElem?_cons_zero, List.getElem?_cons_succ] at b0 b1 b2 b3
    go_wp2_with fail
    refine (HRa _).mono ?_
    rintro e w2 ⟨rfl, hx2⟩
    replace hxw := hxw.then0 hx2
    clear b0 b1 b2 b3 hB HRa hx2
    go_wp2
    go_ret
    exact ⟨rfl, hxw⟩
  have e1 : decide a.right = true := by simpa using ha
  rw [e1] at HRa
  by_cases hb : b.right
  rotate_left
  · have e2 : decide b.right = false := by simpa using hb
    rw [e2] at HRb
    obtain ⟨x1, v1, f1, z1⟩ := a
    obtain ⟨x2, v2, f2, z2⟩ := b
    simp only at HRa HRb ⊢
    clear e1 e2 ha hb HVa HVb HO
    go_enter Try.func16, Try.ntmps16
    go_wp2_with fail
    obtain ⟨W0, hW0, hx0, hB1, hB2⟩ := HX (.int .i64 x1) (.int .i64 v1) (.int .i64 f1) (.int .i64 z1) (.int .i64 x2) (.int .i64 v2) (.int .i64 f2) (.int .i64 z2)
    rw [← hW0]
    refine (begin5_any _).mono ?_
    rintro e w1 ⟨rfl, hx⟩
    have hB := hB1.keep hx (by simp)
    have hC := hB2.keep hx (by simp)
    have hxw : Ext [] w w1 := hx0.then0 hx
    clear hx hx0 hW0 hB1 hB2 HX
    have b0 := hB.c 0
    have b1 := hB.c 1
    have b2 := hB.c 2
    have b3 := hB.c 3
    simp only [List.getElem?_cons_zero, List.getElem?_cons_succ] at b0 b1 b2 b3
    go_wp2_with fail
    refine (HRa _).mono ?_
    rintro e w2 ⟨rfl, hx2⟩
    replace hxw := hxw.then0 hx2
    replace hC := hC.keep hx2 (by simp)
    clear b0 b1 b2 b3 hB HRa hx2
    have b0 := hC.c 0
    have b1 := hC.c 1
    have b2 := hC.c 2
    have b3 := hC.c 3
    simp only [List.getElem?_cons_zero, List.getElem?_cons_succ] at b0 b1 b2 b3
    go_wp2_with fail
    refine (HRb _).mono ?_
    rintro e w3 ⟨rfl, hx3⟩
    replace hxw := hxw.then0 hx3
    clear b0 b1 b2 b3 hC HRb hx3
    go_wp2
    go_ret
    exact ⟨rfl, hxw⟩
  have e2 : decide b.right = true := by simpa using hb
  rw [e2] at HRb
  have HA := again_ok ha hb (fall % 8) (by omega) fs
  obtain ⟨p1, p2, _⟩ := put_two (Two.new 2 (by decide)) (t := 0) (hd := a) ⟨ha, by decide⟩ (by decide)
  have HP : Hid (putHE 0 a (newD 2) = 0 ∧ (fallD (fall % 8) (putHD 0 a (newD 2))).since = []) := ⟨p1, p2.two.since⟩
  obtain ⟨N, hN⟩ : ∃ N, fall % 8 = N := ⟨_, rfl⟩
  rw [hN] at HA HP
  obtain ⟨t, hh, hab, HM⟩ := HA
  have hhr : hh.right := by rcases hab with rfl | rfl; exact ha; exact hb
  have HE := fun k hk => one_enough hhr HM.again (k := k) hk
  have HE2 : Hid (∀ k : Int, k = 0 ∨ k = 1 → ∃ u, openE (loseD k (crashD [] (scD t hh (crashD fs (putHD 1 b (fallD N (putHD 0 a (newD 2)))))))) = 0 ∧ (osK (loseD k (crashD [] (scD t hh (crashD fs (putHD 1 b (fallD N (putHD 0 a (newD 2)))))))) 2).h = hh ∧ (osK (loseD k (crashD [] (scD t hh (crashD fs (putHD 1 b (fallD N (putHD 0 a (newD 2)))))))) 2).turn = u) := HE
  have HMM : Hid (Mended (crashD fs (putHD 1 b (fallD N (putHD 0 a (newD 2))))) t hh) := HM
  have HVh : Hid (hh.val = .agg #[.int .i64 hh.term, .int .i64 hh.vote, .int .i64 hh.first, .int .i64 hh.base]) := rfl
  have HAB : Hid (hh = a ∨ hh = b) := hab
  obtain ⟨B, hB⟩ : ∃ B, which % 2 = B := ⟨_, rfl⟩
  have hB01 : B = 0 ∨ B = 1 := by omega
  have HEB := HE2.out B hB01
  clear HE HM hhr HE2 p1 p2 e1 e2 ha hb hab hB01
  obtain ⟨u, hu⟩ := HEB
  have HU : Hid _ := hu
  clear hu
  have hl : fs.length = len := by have := hR.len.2.2.2; simpa using this
  have hN8 : N ≤ 7 := by omega
  obtain ⟨x1, hx1⟩ : ∃ x, x = a.term := ⟨_, rfl⟩
  obtain ⟨v1, hv1⟩ : ∃ x, x = a.vote := ⟨_, rfl⟩
  obtain ⟨f1, hf1⟩ : ∃ x, x = a.first := ⟨_, rfl⟩
  obtain ⟨z1, hz1⟩ : ∃ x, x = a.base := ⟨_, rfl⟩
  obtain ⟨x2, hx2⟩ : ∃ x, x = b.term := ⟨_, rfl⟩
  obtain ⟨v2, hv2⟩ : ∃ x, x = b.vote := ⟨_, rfl⟩
  obtain ⟨f2, hf2⟩ : ∃ x, x = b.first := ⟨_, rfl⟩
  obtain ⟨z2, hz2⟩ : ∃ x, x = b.base := ⟨_, rfl⟩
  obtain ⟨x, hx⟩ : ∃ x, x = hh.term := ⟨_, rfl⟩
  obtain ⟨v, hv⟩ : ∃ x, x = hh.vote := ⟨_, rfl⟩
  obtain ⟨f, hf⟩ : ∃ x, x = hh.first := ⟨_, rfl⟩
  obtain ⟨z, hz⟩ : ∃ x, x = hh.base := ⟨_, rfl⟩
  have HC : Hid ((x = x1 ∧ v = v1 ∧ f = f1 ∧ z = z1) ∨ (¬ (x = x1 ∧ v = v1 ∧ f = f1 ∧ z = z1) ∧ x = x2 ∧ v = v2 ∧ f = f2 ∧ z = z2)) := by
    show _ ∨ _
    rw [hx, hv, hf, hz, hx1, hv1, hf1, hz1, hx2, hv2, hf2, hz2]
    by_cases hc : hh.term = a.term ∧ hh.vote = a.vote ∧ hh.first = a.first ∧ hh.base = a.base
    · exact .inl hc
    · rcases HAB.out with h | h
      · rw [h] at hc; exact absurd ⟨rfl, rfl, rfl, rfl⟩ hc
      · exact .inr ⟨hc, by rw [h], by rw [h], by rw [h], by rw [h]⟩
  rw [← hx, ← hv, ← hf, ← hz] at HVh
  rw [← hx1, ← hv1, ← hf1, ← hz1] at HVa HRa ⊢
  rw [← hx2, ← hv2, ← hf2, ← hz2] at HVb HRb ⊢
  clear hx hv hf hz hx1 hv1 hf1 hz1 hx2 hv2 hf2 hz2 HAB
  go_enter Try.func16, Try.ntmps16
  go_wp2_with fail
  obtain ⟨W0, hW0, hx0, hB1, hB2⟩ := HX (.int .i64 x1) (.int .i64 v1) (.int .i64 f1) (.int .i64 z1) (.int .i64 x2) (.int .i64 v2) (.int .i64 f2) (.int .i64 z2)
  rw [← hW0]
  obtain ⟨pb, hpb⟩ : ∃ p, p = w.heap.size + 1 := ⟨_, rfl⟩
  obtain ⟨pa, hpa⟩ : ∃ p, p = w.heap.size := ⟨_, rfl⟩
  rw [← hpb] at hB2
  rw [← hpa] at hB1
  rw [← hpb, ← hpa]
  clear hpb hpa HX hW0
  refine (begin5_any _).mono ?_
  rintro e w1 ⟨rfl, hx⟩
  replace hB1 := hB1.keep hx (by simp)
  replace hB2 := hB2.keep hx (by simp)
  have hxw : Ext [] w w1 := hx0.then0 hx
  clear hx hx0
  have b0 := hB1.c 0
  have b1 := hB1.c 1
  have b2 := hB1.c 2
  have b3 := hB1.c 3
  simp only [List.getElem?_cons_zero, List.getElem?_cons_succ] at b0 b1 b2 b3
  go_wp2_with fail
  refine (HRa _).mono ?_
  rintro e w2 ⟨rfl, hx2⟩
  replace hxw := hxw.then0 hx2
  replace hB1 := hB1.keep hx2 (by simp)
  replace hB2 := hB2.keep hx2 (by simp)
  clear b0 b1 b2 b3 HRa hx2
  have b0 := hB2.c 0
  have b1 := hB2.c 1
  have b2 := hB2.c 2
  have b3 := hB2.c 3
  simp only [List.getElem?_cons_zero, List.getElem?_cons_succ] at b0 b1 b2 b3
  go_wp2_with fail
  refine (HRb _).mono ?_
  rintro e w3 ⟨rfl, hx3⟩
  replace hxw := hxw.then0 hx3
  replace hB1 := hB1.keep hx3 (by simp)
  replace hB2 := hB2.keep hx3 (by simp)
  clear b0 b1 b2 b3 HRb hx3
  by_cases h20 : 20 < len
  · clear HP HMM HU HO
    go_wp2
    go_ret
    exact ⟨rfl, hxw⟩
  replace hR := hR.keep hxw (by simp)
  go_wp2_with fail
  refine (new_n 2 w3 _ (Ext.refl _ _)).mono ?_
  rintro e w4 ⟨d, rfl, hd, -⟩
  go_wp2_with fail
  refine (open_yes hd.o HO.out).mono ?_
  rintro e w5 ⟨q, rfl, hs, hd5, -, hq⟩
  have hq3 : w3.heap.size ≤ q := by have := hd.ext.size; omega
  clear hd HO hq
  have hB5 := hB1.keep hd5.ext (by simp)
  have b0 := hB5.c 0
  have b1 := hB5.c 1
  have b2 := hB5.c 2
  have b3 := hB5.c 3
  simp only [List.getElem?_cons_zero, List.getElem?_cons_succ] at b0 b1 b2 b3
  have cP := put_yes (h := a) [] hd5 (by simp) hq3 hs (by decide) (by decide) (by simp) (by simp [newD]) HP.out.1
  rw [HVa.out] at cP
  go_wp2_with fail
  refine cP.mono ?_
  rintro e w6 ⟨rfl, hd6, hs6, -⟩
  clear b0 b1 b2 b3 hB5 hd5 hs cP
  go_wp2_with fail
  refine (fall_o d _ N w3 w6 [q] hd6 (by omega)).mono ?_
  rintro e w7 ⟨rfl, hd7, hk7⟩
  have hs7 : StAt w7 q d 1 a := hs6.kept hk7 (by simp)
  clear hd6 hs6 hk7
  have hB7 := hB2.keep hd7.ext (by simp)
  have b0 := hB7.c 0
  have b1 := hB7.c 1
  have b2 := hB7.c 2
  have b3 := hB7.c 3
  simp only [List.getElem?_cons_zero, List.getElem?_cons_succ] at b0 b1 b2 b3
  have cP := hput_o q d 1 a b _ [q] [] w3 w7 hd7 (by simp) hq3 hs7 (by decide) (by decide) (by simp) (by rw [HP.out.2]; simp)
  rw [HVb.out] at cP
  go_wp2_with fail
  refine cP.mono ?_
  rintro e w8 ⟨rfl, hd8, -, -⟩
  clear b0 b1 b2 b3 hB7 hd7 hs7 cP HP
  have hR8 := hR.keep hd8.ext (by simp)
  obtain ⟨D3, hD3⟩ : ∃ D, D = putHD 1 b (fallD N (putHD 0 a (newD 2))) := ⟨_, rfl⟩
  rw [← hD3] at hd8
  have HMM2 : Hid (Mended (crashD fs D3) t hh) := by rw [hD3]; exact HMM
  have HU2 : Hid (openE (loseD B (crashD [] (scD t hh (crashD fs D3)))) = 0 ∧ (osK (loseD B (crashD [] (scD t hh (crashD fs D3)))) 2).h = hh ∧ (osK (loseD B (crashD [] (scD t hh (crashD fs D3)))) 2).turn = u) := by rw [hD3]; exact HU.out
  clear hD3 HMM HU
  go_wp2_with fail
  refine (crash_n d D3 fa len cap fs w3 w8 hd8.n hR8).mono ?_
  rintro e w9 ⟨d2, rfl, hd9, -⟩
  clear hR8 hd8 hq3
  obtain ⟨D4, hD4⟩ : ∃ D, D = crashD fs D3 := ⟨_, rfl⟩
  rw [← hD4] at hd9 HMM2 HU2
  clear hD4
  go_wp2_with fail
  refine (open_yes hd9.o HMM2.out.opens).mono ?_
  rintro e w10 ⟨q2, rfl, hs10, hd10, -, hq⟩
  have hq3 : w3.heap.size ≤ q2 := by have := hd9.ext.size; omega
  clear hd9 hq
  go_wp2_with fail
  refine (scrub_fine hd10 (by simp) hq3 hs10 HMM2.out).mono ?_
  rintro e w11 ⟨rfl, hd11, u2, hs11⟩
  clear hd10 hs10 HMM2 hq3
  obtain ⟨D5, hD5⟩ : ∃ D, D = scD t hh D4 := ⟨_, rfl⟩
  rw [← hD5] at hd11 HU2
  clear hD5
  have cH := head_o q2 d2 u2 hh w11 hs11
  rw [HVh.out] at cH
  go_wp2_with fail
  refine cH.mono ?_
  rintro e w12 ⟨rfl, hx12⟩
  replace hd11 := hd11.keep hx12
  clear hs11 cH hx12
  have hxa : Ext [] w12 (w12.alloc (.cells #[.int .i64 x, .int .i64 v, .int .i64 f, .int .i64 z] 75)) := (Ext.refl _ _).alloc _
  have hW := Blk.newg (w := w12) (t := 75) (C := #[.int .i64 x, .int .i64 v, .int .i64 f, .int .i64 z]) rfl
  replace hd11 := (hd11.less (O' := []) (by simp)).keep hxa
  go_wp2_with fail
  obtain ⟨W, hWW⟩ : ∃ W, W = w12.alloc (.cells #[.int .i64 x, .int .i64 v, .int .i64 f, .int .i64 z] 75) := ⟨_, rfl⟩
  obtain ⟨pw, hpw⟩ : ∃ r, r = w12.heap.size := ⟨_, rfl⟩
  rw [← hWW, ← hpw] at hW ⊢
  rw [← hWW] at hd11
  clear hWW hpw hxa
  refine (crash_w d2 D5 none 0 0 [] _ W [] hd11 (Rd.nil _ _)).mono ?_
  rintro e w13 ⟨d3, rfl, hd13, -⟩
  have hB13 := hB1.keep hd11.ext (by simp)
  have hC13 := hB2.keep hd11.ext (by simp)
  have hxW : Ext [] w W := hxw.then0 hd11.ext
  clear hd11 hB1 hB2 hxw hR
  go_wp2_with fail
  refine (lose_o d3 _ B W w13 [] hd13.o).mono ?_
  rintro e w14 ⟨rfl, hd14, -⟩
  clear hd13
  go_wp2_with fail
  refine (open_yes hd14 HU2.out).mono ?_
  rintro e w15 ⟨q3, rfl, hs15, hd15, -, -⟩
  have hB15 := hB13.keep hd15.ext (by simp)
  have hC15 := hC13.keep hd15.ext (by simp)
  have hW15 := hW.keep hd15.ext (by simp)
  have hx15 : Ext [] w w15 := hxW.then0 hd15.ext
  clear hd14 hd15 HU2 hB13 hC13 hW hxW
  have cH : ∀ W', Ext [] w15 W' → Calls Try.prog 46 #[.pointer (some ⟨q3, 0, none⟩)] W' fun e w' => e = .returned (.agg #[.int .i64 x, .int .i64 v, .int .i64 f, .int .i64 z]) ∧ Ext [] W' w' := by
    intro W' hW'
    have := head_o q3 d3 u hh W' (hs15.keep hW' (by simp))
    rwa [HVh.out] at this
  have c0 : ∀ W', Ext [] w15 W' → (W'.cell? ⟨pw, 0, none⟩ = some (.int .i64 x) ∧ W'.cell? ⟨pw, 1, none⟩ = some (.int .i64 v) ∧ W'.cell? ⟨pw, 2, none⟩ = some (.int .i64 f) ∧ W'.cell? ⟨pw, 3, none⟩ = some (.int .i64 z)) := fun W' hx => by
    have hh := hW15.keep hx (by simp)
    exact ⟨hh.c 0, hh.c 1, hh.c 2, hh.c 3⟩
  have c1 : ∀ W', Ext [] w15 W' → (W'.cell? ⟨pa, 0, none⟩ = some (.int .i64 x1) ∧ W'.cell? ⟨pa, 1, none⟩ = some (.int .i64 v1) ∧ W'.cell? ⟨pa, 2, none⟩ = some (.int .i64 f1) ∧ W'.cell? ⟨pa, 3, none⟩ = some (.int .i64 z1)) := fun W' hx => by
    have hh := hB15.keep hx (by simp)
    exact ⟨hh.c 0, hh.c 1, hh.c 2, hh.c 3⟩
  have c2 : ∀ W', Ext [] w15 W' → (W'.cell? ⟨pb, 0, none⟩ = some (.int .i64 x2) ∧ W'.cell? ⟨pb, 1, none⟩ = some (.int .i64 v2) ∧ W'.cell? ⟨pb, 2, none⟩ = some (.int .i64 f2) ∧ W'.cell? ⟨pb, 3, none⟩ = some (.int .i64 z2)) := fun W' hx => by
    have hh := hC15.keep hx (by simp)
    exact ⟨hh.c 0, hh.c 1, hh.c 2, hh.c 3⟩
  clear hB15 hC15 hW15 hs15
  go_wp2_with fail
  rcases HC.out with ⟨q1, q4, q5, q6⟩ | ⟨hne, q1, q4, q5, q6⟩
  · subst q1 q4 q5 q6
    clear HC
    refine wp_region_stepsg [83, 84, 85, 86, 87, 88, 89, 90, 91, 92, 93, 94, 95, 96, 97, 98, 99, 100, 10] (agΦ1 q3 pw pa pb x v f z x v f z x2 v2 f2 z2) (by kernel_rfl) (by kernel_rfl) (fun n y w1 w2 h hx => agΦ1_keep q3 pw pa pb x v f z x v f z x2 v2 f2 z2 n y w1 w2 h hx) ?_ ?_
    · refine ⟨?f0, ?f1, ?f2, ?f3, ?f4, ?f5, ?f6, ?f7, ?f8, ?f9, ?f10, ?f11, ?f12, ?f13, ?f14, ?f15, ?f16, ?f17, ?f18, trivial⟩
      case f0 =>
        intro g w' hx hd
        refine op_run rfl ?_
        generalize hA : mkAct _ _ g = A
        have h18 : A.tmps[18]?.getD undef = .int .i64 0 := by rw [← hA]; exact mkAct_out2 _ _ _ _ _ rfl rfl
        refine step_val (v := .int .i64 0) (w' := w') ?_ ⟨_, rfl, Ext.refl _ _, rfl⟩
        simp [execOp, h18, Result.andThen, go_sem]
      case f1 =>
        intro g w' hx hd
        refine op_run rfl ?_
        have e83 : g 83 = .int .i64 0 := hd ⟨0, .data⟩ (by simp) rfl
        generalize hA : mkAct _ _ g = A
        have h83 : A.tmps[83]?.getD undef = .int .i64 0 := by rw [← hA, mkAct_in2 _ _ _ _ rfl rfl]; exact e83
        refine step_val (v := .bool true) (w' := w') ?_ ⟨_, rfl, Ext.refl _ _, rfl⟩
        simp [execOp, h83, Result.andThen, go_sem]
      case f2 =>
        intro g w' hx hd
        refine op_run rfl ?_
        have e84 : g 84 = .bool true := hd ⟨1, .data⟩ (by simp) rfl
        generalize hA : mkAct _ _ g = A
        have h84 : A.tmps[84]?.getD undef = .bool true := by rw [← hA, mkAct_in2 _ _ _ _ rfl rfl]; exact e84
        refine step_val (v := .bool true) (w' := w') ?_ ⟨_, rfl, Ext.refl _ _, rfl⟩
        simp [execOp, h84, Result.andThen, go_sem]
      case f3 =>
        intro g w' hx hd
        have eg : g 85 = .bool true := hd ⟨2, .guard⟩ (by simp) rfl
        refine op_yes rfl rfl rfl rfl eg ?_
        generalize hA : mkAct _ _ g = A
        have h17 : A.tmps[17]?.getD undef = .pointer (some ⟨q3, 0, none⟩) := by rw [← hA]; exact mkAct_out2 _ _ _ _ _ rfl rfl
        refine step_val (v := .pointer (some ⟨q3, 0, none⟩)) (w' := w') ?_ ⟨_, rfl, Ext.refl _ _, rfl⟩
        simp [execOp, h17, Result.andThen, go_sem]
      case f4 =>
        intro g w' hx hd
        have eg : g 85 = .bool true := hd ⟨2, .guard⟩ (by simp) rfl
        refine op_yes rfl rfl rfl rfl eg ?_
        have e86 : g 86 = .pointer (some ⟨q3, 0, none⟩) := hd ⟨3, .data⟩ (by simp) rfl
        generalize hA : mkAct _ _ g = A
        have h86 : A.tmps[86]?.getD undef = .pointer (some ⟨q3, 0, none⟩) := by rw [← hA, mkAct_in2 _ _ _ _ rfl rfl]; exact e86
        refine float_k (fun K hK => ?_)
        go_simp
        refine (cH w' hx).mono ?_
        rintro e w2 ⟨rfl, hx2⟩
        exact hK (.agg #[.int .i64 x, .int .i64 v, .int .i64 f, .int .i64 z]) w2 hx2 rfl
      case f5 =>
        intro g w' hx hd
        have eg : g 85 = .bool true := hd ⟨2, .guard⟩ (by simp) rfl
        refine op_yes rfl rfl rfl rfl eg ?_
        generalize hA : mkAct _ _ g = A
        have h16 : A.tmps[16]?.getD undef = .pointer (some ⟨pw, 0, none⟩) := by rw [← hA]; exact mkAct_out2 _ _ _ _ _ rfl rfl
        obtain ⟨d0, d1, d2, d3⟩ := c0 w' hx
        refine step_val (v := .agg #[.int .i64 x, .int .i64 v, .int .i64 f, .int .i64 z]) (w' := w') ?_ ⟨_, rfl, Ext.refl _ _, rfl⟩
        simp [execOp, h16, d0, d1, d2, d3, Result.andThen, go_sem]
      case f6 =>
        intro g w' hx hd
        have eg : g 85 = .bool true := hd ⟨2, .guard⟩ (by simp) rfl
        refine op_yes rfl rfl rfl rfl eg ?_
        have e87 : g 87 = .agg #[.int .i64 x, .int .i64 v, .int .i64 f, .int .i64 z] := hd ⟨4, .data⟩ (by simp) rfl
        have e88 : g 88 = .agg #[.int .i64 x, .int .i64 v, .int .i64 f, .int .i64 z] := hd ⟨5, .data⟩ (by simp) rfl
        generalize hA : mkAct _ _ g = A
        have h87 : A.tmps[87]?.getD undef = .agg #[.int .i64 x, .int .i64 v, .int .i64 f, .int .i64 z] := by rw [← hA, mkAct_in2 _ _ _ _ rfl rfl]; exact e87
        have h88 : A.tmps[88]?.getD undef = .agg #[.int .i64 x, .int .i64 v, .int .i64 f, .int .i64 z] := by rw [← hA, mkAct_in2 _ _ _ _ rfl rfl]; exact e88
        refine step_val (v := .bool true) (w' := w') ?_ ⟨_, rfl, Ext.refl _ _, rfl⟩
        simp [execOp, h87, h88, Result.andThen, go_sem]
      case f7 =>
        intro g w' hx hd
        refine op_run rfl ?_
        have e85 : g 85 = .bool true := hd ⟨2, .data⟩ (by simp) rfl
        have e89 : g 89 = .bool true := hd ⟨6, .data⟩ (by simp) rfl
        generalize hA : mkAct _ _ g = A
        have h85 : A.tmps[85]?.getD undef = .bool true := by rw [← hA, mkAct_in2 _ _ _ _ rfl rfl]; exact e85
        have h89 : A.tmps[89]?.getD undef = .bool true := by rw [← hA, mkAct_in2 _ _ _ _ rfl rfl]; exact e89
        refine step_val (v := .bool true) (w' := w') ?_ ⟨_, rfl, Ext.refl _ _, rfl⟩
        simp [execOp, h85, h89, Result.andThen, go_sem]
      case f8 =>
        intro g w' hx hd
        refine op_run rfl ?_
        have e90 : g 90 = .bool true := hd ⟨7, .data⟩ (by simp) rfl
        generalize hA : mkAct _ _ g = A
        have h90 : A.tmps[90]?.getD undef = .bool true := by rw [← hA, mkAct_in2 _ _ _ _ rfl rfl]; exact e90
        refine step_val (v := .bool true) (w' := w') ?_ ⟨_, rfl, Ext.refl _ _, rfl⟩
        simp [execOp, h90, Result.andThen, go_sem]
      case f9 =>
        intro g w' hx hd
        have eg : g 91 = .bool true := hd ⟨8, .guard⟩ (by simp) rfl
        refine op_yes rfl rfl rfl rfl eg ?_
        generalize hA : mkAct _ _ g = A
        have h16 : A.tmps[16]?.getD undef = .pointer (some ⟨pw, 0, none⟩) := by rw [← hA]; exact mkAct_out2 _ _ _ _ _ rfl rfl
        obtain ⟨d0, d1, d2, d3⟩ := c0 w' hx
        refine step_val (v := .agg #[.int .i64 x, .int .i64 v, .int .i64 f, .int .i64 z]) (w' := w') ?_ ⟨_, rfl, Ext.refl _ _, rfl⟩
        simp [execOp, h16, d0, d1, d2, d3, Result.andThen, go_sem]
      case f10 =>
        intro g w' hx hd
        have eg : g 91 = .bool true := hd ⟨8, .guard⟩ (by simp) rfl
        refine op_yes rfl rfl rfl rfl eg ?_
        generalize hA : mkAct _ _ g = A
        have h5 : A.tmps[5]?.getD undef = .pointer (some ⟨pa, 0, none⟩) := by rw [← hA]; exact mkAct_out2 _ _ _ _ _ rfl rfl
        obtain ⟨d0, d1, d2, d3⟩ := c1 w' hx
        refine step_val (v := .agg #[.int .i64 x, .int .i64 v, .int .i64 f, .int .i64 z]) (w' := w') ?_ ⟨_, rfl, Ext.refl _ _, rfl⟩
        simp [execOp, h5, d0, d1, d2, d3, Result.andThen, go_sem]
      case f11 =>
        intro g w' hx hd
        have eg : g 91 = .bool true := hd ⟨8, .guard⟩ (by simp) rfl
        refine op_yes rfl rfl rfl rfl eg ?_
        have e92 : g 92 = .agg #[.int .i64 x, .int .i64 v, .int .i64 f, .int .i64 z] := hd ⟨9, .data⟩ (by simp) rfl
        have e93 : g 93 = .agg #[.int .i64 x, .int .i64 v, .int .i64 f, .int .i64 z] := hd ⟨10, .data⟩ (by simp) rfl
        generalize hA : mkAct _ _ g = A
        have h92 : A.tmps[92]?.getD undef = .agg #[.int .i64 x, .int .i64 v, .int .i64 f, .int .i64 z] := by rw [← hA, mkAct_in2 _ _ _ _ rfl rfl]; exact e92
        have h93 : A.tmps[93]?.getD undef = .agg #[.int .i64 x, .int .i64 v, .int .i64 f, .int .i64 z] := by rw [← hA, mkAct_in2 _ _ _ _ rfl rfl]; exact e93
        refine step_val (v := .bool true) (w' := w') ?_ ⟨_, rfl, Ext.refl _ _, rfl⟩
        simp [execOp, h92, h93, Result.andThen, go_sem]
      case f12 =>
        intro g w' hx hd
        have eg : g 91 = .bool true := hd ⟨8, .guard⟩ (by simp) rfl
        refine op_yes rfl rfl rfl rfl eg ?_
        have e94 : g 94 = .bool true := hd ⟨11, .data⟩ (by simp) rfl
        generalize hA : mkAct _ _ g = A
        have h94 : A.tmps[94]?.getD undef = .bool true := by rw [← hA, mkAct_in2 _ _ _ _ rfl rfl]; exact e94
        refine step_val (v := .bool true) (w' := w') ?_ ⟨_, rfl, Ext.refl _ _, rfl⟩
        simp [execOp, h94, Result.andThen, go_sem]
      case f13 =>
        intro g w' hx hd
        have eg : g 95 = .bool true := hd ⟨12, .guard⟩ (by simp) rfl
        exact op_no rfl rfl rfl rfl true eg (by decide) ⟨_, rfl, Ext.refl _ _, rfl⟩
      case f14 =>
        intro g w' hx hd
        have eg : g 95 = .bool true := hd ⟨12, .guard⟩ (by simp) rfl
        exact op_no rfl rfl rfl rfl true eg (by decide) ⟨_, rfl, Ext.refl _ _, rfl⟩
      case f15 =>
        intro g w' hx hd
        have eg : g 95 = .bool true := hd ⟨12, .guard⟩ (by simp) rfl
        exact op_no rfl rfl rfl rfl true eg (by decide) ⟨_, rfl, Ext.refl _ _, rfl⟩
      case f16 =>
        intro g w' hx hd
        have eg : g 91 = .bool true := hd ⟨8, .guard⟩ (by simp) rfl
        refine op_yes rfl rfl rfl rfl eg ?_
        have e95 : g 95 = .bool true := hd ⟨12, .data⟩ (by simp) rfl
        have e98 : g 98 = undef := hd ⟨15, .data⟩ (by simp) rfl
        generalize hA : mkAct _ _ g = A
        have h95 : A.tmps[95]?.getD undef = .bool true := by rw [← hA, mkAct_in2 _ _ _ _ rfl rfl]; exact e95
        have h98 : A.tmps[98]?.getD undef = undef := by rw [← hA, mkAct_in2 _ _ _ _ rfl rfl]; exact e98
        refine step_val (v := .bool true) (w' := w') ?_ ⟨_, rfl, Ext.refl _ _, rfl⟩
        simp [execOp, h95, h98, Result.andThen, go_sem]
      case f17 =>
        intro g w' hx hd
        refine op_run rfl ?_
        have e91 : g 91 = .bool true := hd ⟨8, .data⟩ (by simp) rfl
        have e99 : g 99 = .bool true := hd ⟨16, .data⟩ (by simp) rfl
        generalize hA : mkAct _ _ g = A
        have h91 : A.tmps[91]?.getD undef = .bool true := by rw [← hA, mkAct_in2 _ _ _ _ rfl rfl]; exact e91
        have h99 : A.tmps[99]?.getD undef = .bool true := by rw [← hA, mkAct_in2 _ _ _ _ rfl rfl]; exact e99
        refine step_val (v := .bool true) (w' := w') ?_ ⟨_, rfl, Ext.refl _ _, rfl⟩
        simp [execOp, h91, h99, Result.andThen, go_sem]
      case f18 =>
        intro g w' hx hd
        refine op_run rfl ?_
        have e100 : g 100 = .bool true := hd ⟨17, .data⟩ (by simp) rfl
        generalize hA : mkAct _ _ g = A
        have h100 : A.tmps[100]?.getD undef = .bool true := by rw [← hA, mkAct_in2 _ _ _ _ rfl rfl]; exact e100
        refine step_val (v := .bool true) (w' := w') ?_ ⟨_, rfl, Ext.refl _ _, rfl⟩
        simp [execOp, h100, Result.andThen, go_sem]
    · intro g w' hx hd
      have e10 : g 10 = .bool true := hd 18 (by decide)
      generalize hA : mkAct _ _ g = A
      have h10 : A.tmps.getD 10 undef = .bool true := by
        show A.eval (.tmp 10) = _
        rw [← hA, mkAct_in _ _ _ _ rfl rfl]; exact e10
      have hdf : A.defers = [] := by rw [← hA]; rfl
      clear hA hd e10
      go_wp2
      refine bodyPost_ret (results_tmp rfl _ _ _) hdf ?_
      rw [h10]
      exact ⟨rfl, hx15.then0 hx⟩
  · subst q1 q4 q5 q6
    clear HC
    refine wp_region_stepsg [83, 84, 85, 86, 87, 88, 89, 90, 91, 92, 93, 94, 95, 96, 97, 98, 99, 100, 10] (agΦ2 q3 pw pa pb x v f z x1 v1 f1 z1 x v f z) (by kernel_rfl) (by kernel_rfl) (fun n y w1 w2 h hx => agΦ2_keep q3 pw pa pb x v f z x1 v1 f1 z1 x v f z n y w1 w2 h hx) ?_ ?_
    · refine ⟨?f0, ?f1, ?f2, ?f3, ?f4, ?f5, ?f6, ?f7, ?f8, ?f9, ?f10, ?f11, ?f12, ?f13, ?f14, ?f15, ?f16, ?f17, ?f18, trivial⟩
      case f0 =>
        intro g w' hx hd
        refine op_run rfl ?_
        generalize hA : mkAct _ _ g = A
        have h18 : A.tmps[18]?.getD undef = .int .i64 0 := by rw [← hA]; exact mkAct_out2 _ _ _ _ _ rfl rfl
        refine step_val (v := .int .i64 0) (w' := w') ?_ ⟨_, rfl, Ext.refl _ _, rfl⟩
        simp [execOp, h18, Result.andThen, go_sem]
      case f1 =>
        intro g w' hx hd
        refine op_run rfl ?_
        have e83 : g 83 = .int .i64 0 := hd ⟨0, .data⟩ (by simp) rfl
        generalize hA : mkAct _ _ g = A
        have h83 : A.tmps[83]?.getD undef = .int .i64 0 := by rw [← hA, mkAct_in2 _ _ _ _ rfl rfl]; exact e83
        refine step_val (v := .bool true) (w' := w') ?_ ⟨_, rfl, Ext.refl _ _, rfl⟩
        simp [execOp, h83, Result.andThen, go_sem]
      case f2 =>
        intro g w' hx hd
        refine op_run rfl ?_
        have e84 : g 84 = .bool true := hd ⟨1, .data⟩ (by simp) rfl
        generalize hA : mkAct _ _ g = A
        have h84 : A.tmps[84]?.getD undef = .bool true := by rw [← hA, mkAct_in2 _ _ _ _ rfl rfl]; exact e84
        refine step_val (v := .bool true) (w' := w') ?_ ⟨_, rfl, Ext.refl _ _, rfl⟩
        simp [execOp, h84, Result.andThen, go_sem]
      case f3 =>
        intro g w' hx hd
        have eg : g 85 = .bool true := hd ⟨2, .guard⟩ (by simp) rfl
        refine op_yes rfl rfl rfl rfl eg ?_
        generalize hA : mkAct _ _ g = A
        have h17 : A.tmps[17]?.getD undef = .pointer (some ⟨q3, 0, none⟩) := by rw [← hA]; exact mkAct_out2 _ _ _ _ _ rfl rfl
        refine step_val (v := .pointer (some ⟨q3, 0, none⟩)) (w' := w') ?_ ⟨_, rfl, Ext.refl _ _, rfl⟩
        simp [execOp, h17, Result.andThen, go_sem]
      case f4 =>
        intro g w' hx hd
        have eg : g 85 = .bool true := hd ⟨2, .guard⟩ (by simp) rfl
        refine op_yes rfl rfl rfl rfl eg ?_
        have e86 : g 86 = .pointer (some ⟨q3, 0, none⟩) := hd ⟨3, .data⟩ (by simp) rfl
        generalize hA : mkAct _ _ g = A
        have h86 : A.tmps[86]?.getD undef = .pointer (some ⟨q3, 0, none⟩) := by rw [← hA, mkAct_in2 _ _ _ _ rfl rfl]; exact e86
        refine float_k (fun K hK => ?_)
        go_simp
        refine (cH w' hx).mono ?_
        rintro e w2 ⟨rfl, hx2⟩
        exact hK (.agg #[.int .i64 x, .int .i64 v, .int .i64 f, .int .i64 z]) w2 hx2 rfl
      case f5 =>
        intro g w' hx hd
        have eg : g 85 = .bool true := hd ⟨2, .guard⟩ (by simp) rfl
        refine op_yes rfl rfl rfl rfl eg ?_
        generalize hA : mkAct _ _ g = A
        have h16 : A.tmps[16]?.getD undef = .pointer (some ⟨pw, 0, none⟩) := by rw [← hA]; exact mkAct_out2 _ _ _ _ _ rfl rfl
        obtain ⟨d0, d1, d2, d3⟩ := c0 w' hx
        refine step_val (v := .agg #[.int .i64 x, .int .i64 v, .int .i64 f, .int .i64 z]) (w' := w') ?_ ⟨_, rfl, Ext.refl _ _, rfl⟩
        simp [execOp, h16, d0, d1, d2, d3, Result.andThen, go_sem]
      case f6 =>
        intro g w' hx hd
        have eg : g 85 = .bool true := hd ⟨2, .guard⟩ (by simp) rfl
        refine op_yes rfl rfl rfl rfl eg ?_
        have e87 : g 87 = .agg #[.int .i64 x, .int .i64 v, .int .i64 f, .int .i64 z] := hd ⟨4, .data⟩ (by simp) rfl
        have e88 : g 88 = .agg #[.int .i64 x, .int .i64 v, .int .i64 f, .int .i64 z] := hd ⟨5, .data⟩ (by simp) rfl
        generalize hA : mkAct _ _ g = A
        have h87 : A.tmps[87]?.getD undef = .agg #[.int .i64 x, .int .i64 v, .int .i64 f, .int .i64 z] := by rw [← hA, mkAct_in2 _ _ _ _ rfl rfl]; exact e87
        have h88 : A.tmps[88]?.getD undef = .agg #[.int .i64 x, .int .i64 v, .int .i64 f, .int .i64 z] := by rw [← hA, mkAct_in2 _ _ _ _ rfl rfl]; exact e88
        refine step_val (v := .bool true) (w' := w') ?_ ⟨_, rfl, Ext.refl _ _, rfl⟩
        simp [execOp, h87, h88, Result.andThen, go_sem]
      case f7 =>
        intro g w' hx hd
        refine op_run rfl ?_
        have e85 : g 85 = .bool true := hd ⟨2, .data⟩ (by simp) rfl
        have e89 : g 89 = .bool true := hd ⟨6, .data⟩ (by simp) rfl
        generalize hA : mkAct _ _ g = A
        have h85 : A.tmps[85]?.getD undef = .bool true := by rw [← hA, mkAct_in2 _ _ _ _ rfl rfl]; exact e85
        have h89 : A.tmps[89]?.getD undef = .bool true := by rw [← hA, mkAct_in2 _ _ _ _ rfl rfl]; exact e89
        refine step_val (v := .bool true) (w' := w') ?_ ⟨_, rfl, Ext.refl _ _, rfl⟩
        simp [execOp, h85, h89, Result.andThen, go_sem]
      case f8 =>
        intro g w' hx hd
        refine op_run rfl ?_
        have e90 : g 90 = .bool true := hd ⟨7, .data⟩ (by simp) rfl
        generalize hA : mkAct _ _ g = A
        have h90 : A.tmps[90]?.getD undef = .bool true := by rw [← hA, mkAct_in2 _ _ _ _ rfl rfl]; exact e90
        refine step_val (v := .bool true) (w' := w') ?_ ⟨_, rfl, Ext.refl _ _, rfl⟩
        simp [execOp, h90, Result.andThen, go_sem]
      case f9 =>
        intro g w' hx hd
        have eg : g 91 = .bool true := hd ⟨8, .guard⟩ (by simp) rfl
        refine op_yes rfl rfl rfl rfl eg ?_
        generalize hA : mkAct _ _ g = A
        have h16 : A.tmps[16]?.getD undef = .pointer (some ⟨pw, 0, none⟩) := by rw [← hA]; exact mkAct_out2 _ _ _ _ _ rfl rfl
        obtain ⟨d0, d1, d2, d3⟩ := c0 w' hx
        refine step_val (v := .agg #[.int .i64 x, .int .i64 v, .int .i64 f, .int .i64 z]) (w' := w') ?_ ⟨_, rfl, Ext.refl _ _, rfl⟩
        simp [execOp, h16, d0, d1, d2, d3, Result.andThen, go_sem]
      case f10 =>
        intro g w' hx hd
        have eg : g 91 = .bool true := hd ⟨8, .guard⟩ (by simp) rfl
        refine op_yes rfl rfl rfl rfl eg ?_
        generalize hA : mkAct _ _ g = A
        have h5 : A.tmps[5]?.getD undef = .pointer (some ⟨pa, 0, none⟩) := by rw [← hA]; exact mkAct_out2 _ _ _ _ _ rfl rfl
        obtain ⟨d0, d1, d2, d3⟩ := c1 w' hx
        refine step_val (v := .agg #[.int .i64 x1, .int .i64 v1, .int .i64 f1, .int .i64 z1]) (w' := w') ?_ ⟨_, rfl, Ext.refl _ _, rfl⟩
        simp [execOp, h5, d0, d1, d2, d3, Result.andThen, go_sem]
      case f11 =>
        intro g w' hx hd
        have hne' : ¬ (x = x1 ∧ v = v1 ∧ f = f1 ∧ z = z1) := hne
        have eg : g 91 = .bool true := hd ⟨8, .guard⟩ (by simp) rfl
        refine op_yes rfl rfl rfl rfl eg ?_
        have e92 : g 92 = .agg #[.int .i64 x, .int .i64 v, .int .i64 f, .int .i64 z] := hd ⟨9, .data⟩ (by simp) rfl
        have e93 : g 93 = .agg #[.int .i64 x1, .int .i64 v1, .int .i64 f1, .int .i64 z1] := hd ⟨10, .data⟩ (by simp) rfl
        generalize hA : mkAct _ _ g = A
        have h92 : A.tmps[92]?.getD undef = .agg #[.int .i64 x, .int .i64 v, .int .i64 f, .int .i64 z] := by rw [← hA, mkAct_in2 _ _ _ _ rfl rfl]; exact e92
        have h93 : A.tmps[93]?.getD undef = .agg #[.int .i64 x1, .int .i64 v1, .int .i64 f1, .int .i64 z1] := by rw [← hA, mkAct_in2 _ _ _ _ rfl rfl]; exact e93
        refine step_val (v := .bool false) (w' := w') ?_ ⟨_, rfl, Ext.refl _ _, rfl⟩
        simp [hne', execOp, h92, h93, Result.andThen, go_sem]
        rw [if4 hne']
      case f12 =>
        intro g w' hx hd
        have eg : g 91 = .bool true := hd ⟨8, .guard⟩ (by simp) rfl
        refine op_yes rfl rfl rfl rfl eg ?_
        have e94 : g 94 = .bool false := hd ⟨11, .data⟩ (by simp) rfl
        generalize hA : mkAct _ _ g = A
        have h94 : A.tmps[94]?.getD undef = .bool false := by rw [← hA, mkAct_in2 _ _ _ _ rfl rfl]; exact e94
        refine step_val (v := .bool false) (w' := w') ?_ ⟨_, rfl, Ext.refl _ _, rfl⟩
        simp [execOp, h94, Result.andThen, go_sem]
      case f13 =>
        intro g w' hx hd
        have eg : g 95 = .bool false := hd ⟨12, .guard⟩ (by simp) rfl
        refine op_yes rfl rfl rfl rfl eg ?_
        generalize hA : mkAct _ _ g = A
        have h16 : A.tmps[16]?.getD undef = .pointer (some ⟨pw, 0, none⟩) := by rw [← hA]; exact mkAct_out2 _ _ _ _ _ rfl rfl
        obtain ⟨d0, d1, d2, d3⟩ := c0 w' hx
        refine step_val (v := .agg #[.int .i64 x, .int .i64 v, .int .i64 f, .int .i64 z]) (w' := w') ?_ ⟨_, rfl, Ext.refl _ _, rfl⟩
        simp [execOp, h16, d0, d1, d2, d3, Result.andThen, go_sem]
      case f14 =>
        intro g w' hx hd
        have eg : g 95 = .bool false := hd ⟨12, .guard⟩ (by simp) rfl
        refine op_yes rfl rfl rfl rfl eg ?_
        generalize hA : mkAct _ _ g = A
        have h6 : A.tmps[6]?.getD undef = .pointer (some ⟨pb, 0, none⟩) := by rw [← hA]; exact mkAct_out2 _ _ _ _ _ rfl rfl
        obtain ⟨d0, d1, d2, d3⟩ := c2 w' hx
        refine step_val (v := .agg #[.int .i64 x, .int .i64 v, .int .i64 f, .int .i64 z]) (w' := w') ?_ ⟨_, rfl, Ext.refl _ _, rfl⟩
        simp [execOp, h6, d0, d1, d2, d3, Result.andThen, go_sem]
      case f15 =>
        intro g w' hx hd
        have eg : g 95 = .bool false := hd ⟨12, .guard⟩ (by simp) rfl
        refine op_yes rfl rfl rfl rfl eg ?_
        have e96 : g 96 = .agg #[.int .i64 x, .int .i64 v, .int .i64 f, .int .i64 z] := hd ⟨13, .data⟩ (by simp) rfl
        have e97 : g 97 = .agg #[.int .i64 x, .int .i64 v, .int .i64 f, .int .i64 z] := hd ⟨14, .data⟩ (by simp) rfl
        generalize hA : mkAct _ _ g = A
        have h96 : A.tmps[96]?.getD undef = .agg #[.int .i64 x, .int .i64 v, .int .i64 f, .int .i64 z] := by rw [← hA, mkAct_in2 _ _ _ _ rfl rfl]; exact e96
        have h97 : A.tmps[97]?.getD undef = .agg #[.int .i64 x, .int .i64 v, .int .i64 f, .int .i64 z] := by rw [← hA, mkAct_in2 _ _ _ _ rfl rfl]; exact e97
        refine step_val (v := .bool true) (w' := w') ?_ ⟨_, rfl, Ext.refl _ _, rfl⟩
        simp [execOp, h96, h97, Result.andThen, go_sem]
      case f16 =>
        intro g w' hx hd
        have eg : g 91 = .bool true := hd ⟨8, .guard⟩ (by simp) rfl
        refine op_yes rfl rfl rfl rfl eg ?_
        have e95 : g 95 = .bool false := hd ⟨12, .data⟩ (by simp) rfl
        have e98 : g 98 = .bool true := hd ⟨15, .data⟩ (by simp) rfl
        generalize hA : mkAct _ _ g = A
        have h95 : A.tmps[95]?.getD undef = .bool false := by rw [← hA, mkAct_in2 _ _ _ _ rfl rfl]; exact e95
        have h98 : A.tmps[98]?.getD undef = .bool true := by rw [← hA, mkAct_in2 _ _ _ _ rfl rfl]; exact e98
        refine step_val (v := .bool true) (w' := w') ?_ ⟨_, rfl, Ext.refl _ _, rfl⟩
        simp [execOp, h95, h98, Result.andThen, go_sem]
      case f17 =>
        intro g w' hx hd
        refine op_run rfl ?_
        have e91 : g 91 = .bool true := hd ⟨8, .data⟩ (by simp) rfl
        have e99 : g 99 = .bool true := hd ⟨16, .data⟩ (by simp) rfl
        generalize hA : mkAct _ _ g = A
        have h91 : A.tmps[91]?.getD undef = .bool true := by rw [← hA, mkAct_in2 _ _ _ _ rfl rfl]; exact e91
        have h99 : A.tmps[99]?.getD undef = .bool true := by rw [← hA, mkAct_in2 _ _ _ _ rfl rfl]; exact e99
        refine step_val (v := .bool true) (w' := w') ?_ ⟨_, rfl, Ext.refl _ _, rfl⟩
        simp [execOp, h91, h99, Result.andThen, go_sem]
      case f18 =>
        intro g w' hx hd
        refine op_run rfl ?_
        have e100 : g 100 = .bool true := hd ⟨17, .data⟩ (by simp) rfl
        generalize hA : mkAct _ _ g = A
        have h100 : A.tmps[100]?.getD undef = .bool true := by rw [← hA, mkAct_in2 _ _ _ _ rfl rfl]; exact e100
        refine step_val (v := .bool true) (w' := w') ?_ ⟨_, rfl, Ext.refl _ _, rfl⟩
        simp [execOp, h100, Result.andThen, go_sem]
    · intro g w' hx hd
      have e10 : g 10 = .bool true := hd 18 (by decide)
      generalize hA : mkAct _ _ g = A
      have h10 : A.tmps.getD 10 undef = .bool true := by
        show A.eval (.tmp 10) = _
        rw [← hA, mkAct_in _ _ _ _ rfl rfl]; exact e10
      have hdf : A.defers = [] := by rw [← hA]; rfl
      clear hA hd e10
      go_wp2
      refine bodyPost_ret (results_tmp rfl _ _ _) hdf ?_
      rw [h10]
      exact ⟨rfl, hx15.then0 hx⟩
end Go.Proofs.Ytpnfgkgloioddaa
