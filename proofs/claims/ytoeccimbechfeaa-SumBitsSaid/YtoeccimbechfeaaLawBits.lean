/- SumBits: the walk. -/
import Derived.Test.YtoeccimbechfeaaSum
import Derived.Test.YtoeccimbechfeaaSumLaw
import Derived.Test.YtoeccimbechfeaaBits
import Derived.Test.YtoeccimbechfeaaStep
import Derived.Test.YtoeccimbechfeaaHeld
import Derived.Test.YtoeccimbechfeaaRegInvG
namespace Go.Proofs.Ytoeccimbechfeaa
open Go.RowKit
set_option linter.unusedVariables false
set_option linter.unusedSimpArgs false
attribute [local go_sem] run_min4

theorem xor3_snoc : ∀ (a b c : List UInt8) (x y z : UInt8), a.length = b.length → a.length = c.length → xor3 (a ++ [x]) (b ++ [y]) (c ++ [z]) = xor3 a b c ++ [x ^^^ y ^^^ z]
  | [], [], [], x, y, z, _, _ => rfl
  | p :: a, q :: b, r :: c, x, y, z, h1, h2 => by
    show (p ^^^ q ^^^ r) :: xor3 (a ++ [x]) (b ++ [y]) (c ++ [z]) = _
    rw [xor3_snoc a b c x y z (by simpa using h1) (by simpa using h2)]; rfl
theorem xor3_take (a b c : List UInt8) (k : Nat) (ha : k < a.length) (hb : k < b.length) (hc : k < c.length) :
    xor3 (a.take (k + 1)) (b.take (k + 1)) (c.take (k + 1)) = xor3 (a.take k) (b.take k) (c.take k) ++ [a[k] ^^^ b[k] ^^^ c[k]] := by
  rw [List.take_succ_eq_append_getElem ha, List.take_succ_eq_append_getElem hb, List.take_succ_eq_append_getElem hc]
  exact xor3_snoc _ _ _ _ _ _ (by simp; omega) (by simp; omega)
theorem xor3_length : ∀ (a b c : List UInt8), (xor3 a b c).length ≤ a.length
  | [], _, _ => by simp [xor3]
  | p :: a, [], _ => by simp [xor3]
  | p :: a, q :: b, [] => by simp [xor3]
  | p :: a, q :: b, r :: c => by simp [xor3]; exact xor3_length a b c

def bitΦ (u8 : Value) (a b c X A B C : List UInt8) (k : Nat) (sx sa sb sab sc : BitVec 32) (n : Nat) (y : Value) (w : World) : Prop :=
  match n with
  | 0 => y = u8
  | 1 => y = str X
  | 2 => ∃ s, y = .slice (some ⟨s, 0, none⟩) 1 1 ∧ Rd w 1 y 1 ([X].map str)
  | 3 => y = .int .u32 (u32v sx)
  | 4 => y = str a
  | 5 => y = .int .i64 k
  | 6 => y = str A
  | 7 => ∃ s, y = .slice (some ⟨s, 0, none⟩) 1 1 ∧ Rd w 1 y 1 ([A].map str)
  | 8 => y = .int .u32 (u32v sa)
  | 9 => y = str b
  | 10 => y = .int .i64 k
  | 11 => y = str B
  | 12 => ∃ s, y = .slice (some ⟨s, 0, none⟩) 1 1 ∧ Rd w 1 y 1 ([B].map str)
  | 13 => y = .int .u32 (u32v sb)
  | 14 => y = .int .u32 (u32v sab)
  | 15 => y = str c
  | 16 => y = .int .i64 k
  | 17 => y = str C
  | 18 => ∃ s, y = .slice (some ⟨s, 0, none⟩) 1 1 ∧ Rd w 1 y 1 ([C].map str)
  | 19 => y = .int .u32 (u32v sc)
  | 20 => y = .int .u32 (u32v sx)
  | 21 => y = .bool true
  | 22 => y = .bool true
  | _ => True
theorem bitΦ_keep (u8 : Value) (a b c X A B C : List UInt8) (k : Nat) (sx sa sb sab sc : BitVec 32) (n : Nat) (y : Value) (w w' : World) (h : bitΦ u8 a b c X A B C k sx sa sb sab sc n y w) (hx : Ext [] w w') : bitΦ u8 a b c X A B C k sx sa sb sab sc n y w' := by
  unfold bitΦ at h ⊢
  split at h <;> first | exact h | (obtain ⟨s, rfl, hr⟩ := h; exact ⟨s, rfl, hr.keep hx (by simp)⟩)
set_option maxRecDepth 100000 in
set_option maxHeartbeats 3200000 in
theorem sumBits_any (a : List UInt8) (_ : a.length ≤ maxLen) (b : List UInt8) (_ : b.length ≤ maxLen) (c : List UInt8) (_ : c.length ≤ maxLen) (w : World) :
    Calls Try.prog 6 #[str a, str b, str c] w fun e w' => e = .returned (.bool true) ∧ Ext [] w w' := by
  obtain ⟨n, hn⟩ : ∃ n : Nat, min (a.length : Int) (min (b.length : Int) (min (c.length : Int) 300)) = (n : Int) := ⟨min a.length (min b.length (min c.length 300)), by omega⟩
  have hna : n ≤ a.length := by omega
  have hnb : n ≤ b.length := by omega
  have hnc : n ≤ c.length := by omega
  have hn3 : n ≤ 300 := by omega
  go_enter Try.func6, Try.ntmps6
  go_wp2_with fail
  refine (head2_any w).mono ?_
  rintro e w1 ⟨rfl, hx⟩
  have hs1 := hx.size
  go_wp2
  go_loopw [8, 9] (fun v i wr => ∃ k : Nat, k ≤ n ∧ i = .int .i64 k ∧ OwnB wr v (xor3 (a.take k) (b.take k) (c.take k)) ∧ (∀ x ∈ vblocks v, w.heap.size ≤ x) ∧ Ext [] w wr) (fun _ i _ => n - (intOf i).toNat)
  case atStart => exact ⟨0, by omega, rfl, Own.lit _ #[] _ 1 0 rfl (by omega), by simp [vblocks]; omega, hx.alloc _⟩
  case round =>
    clear hx hs1
    obtain ⟨k, hk, rfl, ho, hv, hxr⟩ := hrel
    by_cases hlt : k < n
    · have hka : k < a.length := by omega
      have hkb : k < b.length := by omega
      have hkc : k < c.length := by omega
      have HT : Hid (xor3 (a.take (k + 1)) (b.take (k + 1)) (c.take (k + 1)) = xor3 (a.take k) (b.take k) (c.take k) ++ [a[k] ^^^ b[k] ^^^ c[k]]) := xor3_take a b c k hka hkb hkc
      have hol : (xor3 (a.take k) (b.take k) (c.take k)).length ≤ 300 := by
        have := xor3_length (a.take k) (b.take k) (c.take k)
        rw [List.length_take] at this; omega
      obtain ⟨o, hoo⟩ : ∃ o, o = xor3 (a.take k) (b.take k) (c.take k) := ⟨_, rfl⟩
      rw [← hoo] at HT hol ho
      clear hoo
      have i0 : ∀ W, (Instr.index 9 (str a) (.int .i64 (k : Int))).run Try.prog W = .ok (.int .u8 (a[k].toNat : Int)) W := fun W => run_str_at _ a k W Try.underlying9 hka
      have i1 : ∀ W, (Instr.index 9 (str b) (.int .i64 (k : Int))).run Try.prog W = .ok (.int .u8 (b[k].toNat : Int)) W := fun W => run_str_at _ b k W Try.underlying9 hkb
      have i2 : ∀ W, (Instr.index 9 (str c) (.int .i64 (k : Int))).run Try.prog W = .ok (.int .u8 (c[k].toNat : Int)) W := fun W => run_str_at _ c k W Try.underlying9 hkc
      have x1 := b8_xor a[k] b[k]
      have x2 := b8_xor (a[k] ^^^ b[k]) c[k]
      obtain ⟨pa, hpa⟩ : ∃ p, p = a[k] := ⟨_, rfl⟩
      obtain ⟨pb', hpb⟩ : ∃ p, p = b[k] := ⟨_, rfl⟩
      obtain ⟨pc, hpc⟩ : ∃ p, p = c[k] := ⟨_, rfl⟩
      obtain ⟨y, hy⟩ : ∃ p, p = pa ^^^ pb' := ⟨_, rfl⟩
      obtain ⟨z, hz⟩ : ∃ p, p = y ^^^ pc := ⟨_, rfl⟩
      rw [← hpa] at i0
      rw [← hpb] at i1
      rw [← hpc] at i2
      rw [← hpa, ← hpb, ← hy] at x1
      rw [← hpa, ← hpb, ← hpc, ← hy, ← hz] at x2
      have HT2 : Hid (xor3 (a.take (k + 1)) (b.take (k + 1)) (c.take (k + 1)) = o ++ [z]) := by show _ = _; rw [HT.out, hz, hy, hpa, hpb, hpc]
      have hxw := hxr.drew
      have how : OwnB wr.drew u8 o := ho.keep ((Ext.refl [] wr).drew) (by simp)
      have hsw : wr.drew.heap.size = wr.heap.size := rfl
      have hsx := hxr.size
      clear hpa hpb hpc hy hz HT ho hxr hka hkb hkc hna hnb hnc
      go_wp2_with fail
      go_region_law (first
        | (refine step_append rfl _ _ _ rfl 5 (.int .u8 0) 1 1 el_bytes u8 o.length (bcells o) rfl (how.keep (Ext.alloc (Ext.refl [] _) _) (by simp)) (.slice (some ⟨wr.heap.size, 0, none⟩) 1 1) 1 (bcells [z]) rfl ?_ (bcells_one _) (by omega) (by unfold maxLen; omega) ?_; (exact Rd.byte (w := wr.drew) rfl); intro v' w' ho' hx' hv'))
      all_goals (
        have hx2 : Ext [] w w' := (hxw.alloc _).trans hx' (fun x hx => .inr (hv x hx))
        have ho2 : OwnB w' v' (o ++ [z]) := (by unfold OwnB; rw [bcells_append, List.length_append]; exact ho')
        have hv2 : ∀ x ∈ vblocks v', w.heap.size ≤ x := (by
          intro x hx
          rcases hv' with h | h
          · rw [h] at hx; exact hv x hx
          · rw [h] at hx; simp at hx; omega)
        clear hx' ho' hv' how hxw hv
        go_wp2
        go_roundw
        case rel => exact ⟨k + 1, by omega, by go_num, by rw [HT2.out]; exact ho2, hv2, hx2⟩
        case measure => simp [intOf]; omega)
    · obtain rfl : k = n := by omega
      have hxa : ByteArray.extract ⟨a.toArray⟩ 0 k = ⟨(a.take k).toArray⟩ := take_extract a k hna
      have hxb : ByteArray.extract ⟨b.toArray⟩ 0 k = ⟨(b.take k).toArray⟩ := take_extract b k hnb
      have hxc : ByteArray.extract ⟨c.toArray⟩ 0 k = ⟨(c.take k).toArray⟩ := take_extract c k hnc
      have hla : (a.take k).length = k := by rw [List.length_take]; omega
      have hlb : (b.take k).length = k := by rw [List.length_take]; omega
      have hlc : (c.take k).length = k := by rw [List.length_take]; omega
      have hsum := sumOf_xor3 (a.take k) (b.take k) (c.take k) (by omega) (by omega)
      have hxl := xor3_length (a.take k) (b.take k) (c.take k)
      obtain ⟨A, hA⟩ : ∃ A, A = a.take k := ⟨_, rfl⟩
      obtain ⟨B, hB⟩ : ∃ A, A = b.take k := ⟨_, rfl⟩
      obtain ⟨C, hC⟩ : ∃ A, A = c.take k := ⟨_, rfl⟩
      obtain ⟨X, hX⟩ : ∃ A, A = xor3 (a.take k) (b.take k) (c.take k) := ⟨_, rfl⟩
      rw [← hX] at ho hsum hxl
      rw [← hA] at hxa hla hsum hxl
      rw [← hB] at hxb hlb hsum
      rw [← hC] at hxc hlc hsum
      have mA : ∀ t ∈ [A], t.length ≤ maxLen := by intro t ht; simp at ht; subst ht; unfold maxLen; omega
      have mB : ∀ t ∈ [B], t.length ≤ maxLen := by intro t ht; simp at ht; subst ht; unfold maxLen; omega
      have mC : ∀ t ∈ [C], t.length ≤ maxLen := by intro t ht; simp at ht; subst ht; unfold maxLen; omega
      have mX : ∀ t ∈ [X], t.length ≤ maxLen := by intro t ht; simp at ht; subst ht; unfold maxLen; omega
      have q1 := b32_xor (sumOf A) (sumOf B)
      have q2 := b32_xor (sumOf A ^^^ sumOf B) (sumOf C)
      rw [← hsum] at q2
      obtain ⟨sa, hsa⟩ : ∃ s, s = sumOf A := ⟨_, rfl⟩
      obtain ⟨sb, hsb⟩ : ∃ s, s = sumOf B := ⟨_, rfl⟩
      obtain ⟨sc, hsc⟩ : ∃ s, s = sumOf C := ⟨_, rfl⟩
      obtain ⟨sx, hsx⟩ : ∃ s, s = sumOf X := ⟨_, rfl⟩
      rw [← hsa, ← hsb] at q1 q2
      rw [← hsc, ← hsx] at q2
      obtain ⟨sab, hsab⟩ : ∃ s, s = sa ^^^ sb := ⟨_, rfl⟩
      rw [← hsab] at q1 q2
      have cX : ∀ W g, Rd W 1 (.slice (some g) 1 1) 1 ([X].map str) → Calls Try.prog 19 #[.slice (some g) 1 1] W fun e w' => e = .returned (.int .u32 (u32v sx)) ∧ Ext [] W w' := fun W g h => by
        have := of_any _ 1 1 [X] W (by omega) mX h
        rwa [List.flatten_singleton, ← hsx] at this
      have cA : ∀ W g, Rd W 1 (.slice (some g) 1 1) 1 ([A].map str) → Calls Try.prog 19 #[.slice (some g) 1 1] W fun e w' => e = .returned (.int .u32 (u32v sa)) ∧ Ext [] W w' := fun W g h => by
        have := of_any _ 1 1 [A] W (by omega) mA h
        rwa [List.flatten_singleton, ← hsa] at this
      have cB : ∀ W g, Rd W 1 (.slice (some g) 1 1) 1 ([B].map str) → Calls Try.prog 19 #[.slice (some g) 1 1] W fun e w' => e = .returned (.int .u32 (u32v sb)) ∧ Ext [] W w' := fun W g h => by
        have := of_any _ 1 1 [B] W (by omega) mB h
        rwa [List.flatten_singleton, ← hsb] at this
      have cC : ∀ W g, Rd W 1 (.slice (some g) 1 1) 1 ([C].map str) → Calls Try.prog 19 #[.slice (some g) 1 1] W fun e w' => e = .returned (.int .u32 (u32v sc)) ∧ Ext [] W w' := fun W g h => by
        have := of_any _ 1 1 [C] W (by omega) mC h
        rwa [List.flatten_singleton, ← hsc] at this
      clear mA mB mC mX hsa hsb hsc hsx hsab hsum hA hB hC hX hv hxl
      go_wp2_with fail
      refine wp_region_stepsg [39, 40, 41, 42, 43, 44, 45, 46, 47, 48, 49, 50, 51, 52, 53, 54, 55, 56, 57, 58, 59, 60, 6] (bitΦ u8 a b c X A B C k sx sa sb sab sc) (by kernel_rfl) (by kernel_rfl) (fun n y w1 w2 h hx => bitΦ_keep u8 a b c X A B C k sx sa sb sab sc n y w1 w2 h hx) ?_ ?_
      · refine ⟨?f0, ?f1, ?f2, ?f3, ?f4, ?f5, ?f6, ?f7, ?f8, ?f9, ?f10, ?f11, ?f12, ?f13, ?f14, ?f15, ?f16, ?f17, ?f18, ?f19, ?f20, ?f21, ?f22, trivial⟩
        case f0 =>
          intro g w' hx hd
          refine op_run rfl ?_
          generalize hA : mkAct _ _ g = A0
          have h8 : A0.tmps[8]?.getD undef = u8 := by rw [← hA]; exact mkAct_out2 _ _ _ _ _ rfl rfl
          refine step_val (v := u8) (w' := w') ?_ ⟨_, rfl, Ext.refl _ _, rfl⟩
          simp [execOp, h8, Result.andThen, go_sem]
        case f1 =>
          intro g w' hx hd
          refine op_run rfl ?_
          have e39 : g 39 = u8 := hd ⟨0, .data⟩ (by simp) rfl
          have hst := (ho.keep hx (by simp)).str
          generalize hA : mkAct _ _ g = A0
          have h39 : A0.tmps[39]?.getD undef = u8 := by rw [← hA, mkAct_in2 _ _ _ _ rfl rfl]; exact e39
          refine float_k (fun K hK => ?_)
          clear e39 hd
          go_simp
          exact hK (str X) w' (Ext.refl _ _) rfl
        case f2 =>
          intro g w' hx hd
          refine op_run rfl ?_
          have e40 : g 40 = str X := hd ⟨1, .data⟩ (by simp) rfl
          generalize hA : mkAct _ _ g = A0
          have h40 : A0.tmps[40]?.getD undef = str X := by rw [← hA, mkAct_in2 _ _ _ _ rfl rfl]; exact e40
          refine step_val (v := .slice (some ⟨w'.heap.size, 0, none⟩) 1 1) (w' := w'.alloc (.cells #[str X] 9)) ?_ ⟨_, rfl, (Ext.refl _ _).alloc _, ⟨w'.heap.size, rfl, Rd.strs1 X rfl⟩⟩
          simp [execOp, h40, Result.andThen, go_sem]
        case f3 =>
          intro g w' hx hd
          refine op_run rfl ?_
          obtain ⟨s, e0, hr⟩ := hd ⟨2, .data⟩ (by simp) rfl
          have e0' : g 41 = .slice (some ⟨s, 0, none⟩) 1 1 := e0
          rw [show g (slotOf _ 2) = g 41 from rfl, e0'] at hr
          generalize hA : mkAct _ _ g = A0
          have h1 : A0.tmps[41]?.getD undef = .slice (some ⟨s, 0, none⟩) 1 1 := by rw [← hA, mkAct_in2 _ _ _ _ rfl rfl]; exact e0'
          refine float_k (fun K hK => ?_)
          go_simp
          refine (cX w' _ hr).mono ?_
          rintro e w2 ⟨rfl, hx2⟩
          exact hK _ w2 hx2 rfl
        case f4 =>
          intro g w' hx hd
          refine op_run rfl ?_
          generalize hA : mkAct _ _ g = A0
          have h0 : A0.tmps[0]?.getD undef = str a := by rw [← hA]; exact mkAct_out2 _ _ _ _ _ rfl rfl
          refine step_val (v := str a) (w' := w') ?_ ⟨_, rfl, Ext.refl _ _, rfl⟩
          simp [execOp, h0, Result.andThen, go_sem]
        case f5 =>
          intro g w' hx hd
          refine op_run rfl ?_
          generalize hA : mkAct _ _ g = A0
          have h7 : A0.tmps[7]?.getD undef = .int .i64 k := by rw [← hA]; exact mkAct_out2 _ _ _ _ _ rfl rfl
          refine step_val (v := .int .i64 k) (w' := w') ?_ ⟨_, rfl, Ext.refl _ _, rfl⟩
          simp [execOp, h7, Result.andThen, go_sem]
        case f6 =>
          intro g w' hx hd
          refine op_run rfl ?_
          have e43 : g 43 = str a := hd ⟨4, .data⟩ (by simp) rfl
          have e44 : g 44 = .int .i64 k := hd ⟨5, .data⟩ (by simp) rfl
          generalize hA : mkAct _ _ g = A0
          have h43 : A0.tmps[43]?.getD undef = str a := by rw [← hA, mkAct_in2 _ _ _ _ rfl rfl]; exact e43
          have h44 : A0.tmps[44]?.getD undef = .int .i64 k := by rw [← hA, mkAct_in2 _ _ _ _ rfl rfl]; exact e44
          refine float_k (fun K hK => ?_)
          clear hd
          go_simp
          exact hK (str A) w' (Ext.refl _ _) rfl
        case f7 =>
          intro g w' hx hd
          refine op_run rfl ?_
          have e45 : g 45 = str A := hd ⟨6, .data⟩ (by simp) rfl
          generalize hA : mkAct _ _ g = A0
          have h45 : A0.tmps[45]?.getD undef = str A := by rw [← hA, mkAct_in2 _ _ _ _ rfl rfl]; exact e45
          refine step_val (v := .slice (some ⟨w'.heap.size, 0, none⟩) 1 1) (w' := w'.alloc (.cells #[str A] 9)) ?_ ⟨_, rfl, (Ext.refl _ _).alloc _, ⟨w'.heap.size, rfl, Rd.strs1 A rfl⟩⟩
          simp [execOp, h45, Result.andThen, go_sem]
        case f8 =>
          intro g w' hx hd
          refine op_run rfl ?_
          obtain ⟨s, e0, hr⟩ := hd ⟨7, .data⟩ (by simp) rfl
          have e0' : g 46 = .slice (some ⟨s, 0, none⟩) 1 1 := e0
          rw [show g (slotOf _ 7) = g 46 from rfl, e0'] at hr
          generalize hA : mkAct _ _ g = A0
          have h1 : A0.tmps[46]?.getD undef = .slice (some ⟨s, 0, none⟩) 1 1 := by rw [← hA, mkAct_in2 _ _ _ _ rfl rfl]; exact e0'
          refine float_k (fun K hK => ?_)
          go_simp
          refine (cA w' _ hr).mono ?_
          rintro e w2 ⟨rfl, hx2⟩
          exact hK _ w2 hx2 rfl
        case f9 =>
          intro g w' hx hd
          refine op_run rfl ?_
          generalize hA : mkAct _ _ g = A0
          have h1 : A0.tmps[1]?.getD undef = str b := by rw [← hA]; exact mkAct_out2 _ _ _ _ _ rfl rfl
          refine step_val (v := str b) (w' := w') ?_ ⟨_, rfl, Ext.refl _ _, rfl⟩
          simp [execOp, h1, Result.andThen, go_sem]
        case f10 =>
          intro g w' hx hd
          refine op_run rfl ?_
          generalize hA : mkAct _ _ g = A0
          have h7 : A0.tmps[7]?.getD undef = .int .i64 k := by rw [← hA]; exact mkAct_out2 _ _ _ _ _ rfl rfl
          refine step_val (v := .int .i64 k) (w' := w') ?_ ⟨_, rfl, Ext.refl _ _, rfl⟩
          simp [execOp, h7, Result.andThen, go_sem]
        case f11 =>
          intro g w' hx hd
          refine op_run rfl ?_
          have e48 : g 48 = str b := hd ⟨9, .data⟩ (by simp) rfl
          have e49 : g 49 = .int .i64 k := hd ⟨10, .data⟩ (by simp) rfl
          generalize hA : mkAct _ _ g = A0
          have h48 : A0.tmps[48]?.getD undef = str b := by rw [← hA, mkAct_in2 _ _ _ _ rfl rfl]; exact e48
          have h49 : A0.tmps[49]?.getD undef = .int .i64 k := by rw [← hA, mkAct_in2 _ _ _ _ rfl rfl]; exact e49
          refine float_k (fun K hK => ?_)
          clear hd
          go_simp
          exact hK (str B) w' (Ext.refl _ _) rfl
        case f12 =>
          intro g w' hx hd
          refine op_run rfl ?_
          have e50 : g 50 = str B := hd ⟨11, .data⟩ (by simp) rfl
          generalize hA : mkAct _ _ g = A0
          have h50 : A0.tmps[50]?.getD undef = str B := by rw [← hA, mkAct_in2 _ _ _ _ rfl rfl]; exact e50
          refine step_val (v := .slice (some ⟨w'.heap.size, 0, none⟩) 1 1) (w' := w'.alloc (.cells #[str B] 9)) ?_ ⟨_, rfl, (Ext.refl _ _).alloc _, ⟨w'.heap.size, rfl, Rd.strs1 B rfl⟩⟩
          simp [execOp, h50, Result.andThen, go_sem]
        case f13 =>
          intro g w' hx hd
          refine op_run rfl ?_
          obtain ⟨s, e0, hr⟩ := hd ⟨12, .data⟩ (by simp) rfl
          have e0' : g 51 = .slice (some ⟨s, 0, none⟩) 1 1 := e0
          rw [show g (slotOf _ 12) = g 51 from rfl, e0'] at hr
          generalize hA : mkAct _ _ g = A0
          have h1 : A0.tmps[51]?.getD undef = .slice (some ⟨s, 0, none⟩) 1 1 := by rw [← hA, mkAct_in2 _ _ _ _ rfl rfl]; exact e0'
          refine float_k (fun K hK => ?_)
          go_simp
          refine (cB w' _ hr).mono ?_
          rintro e w2 ⟨rfl, hx2⟩
          exact hK _ w2 hx2 rfl
        case f14 =>
          intro g w' hx hd
          refine op_run rfl ?_
          have e47 : g 47 = .int .u32 (u32v sa) := hd ⟨8, .data⟩ (by simp) rfl
          have e52 : g 52 = .int .u32 (u32v sb) := hd ⟨13, .data⟩ (by simp) rfl
          generalize hA : mkAct _ _ g = A0
          have h47 : A0.tmps[47]?.getD undef = .int .u32 (u32v sa) := by rw [← hA, mkAct_in2 _ _ _ _ rfl rfl]; exact e47
          have h52 : A0.tmps[52]?.getD undef = .int .u32 (u32v sb) := by rw [← hA, mkAct_in2 _ _ _ _ rfl rfl]; exact e52
          refine step_val (v := .int .u32 (u32v sab)) (w' := w') ?_ ⟨_, rfl, Ext.refl _ _, rfl⟩
          simp [q1, execOp, h47, h52, Result.andThen, go_sem]
        case f15 =>
          intro g w' hx hd
          refine op_run rfl ?_
          generalize hA : mkAct _ _ g = A0
          have h2 : A0.tmps[2]?.getD undef = str c := by rw [← hA]; exact mkAct_out2 _ _ _ _ _ rfl rfl
          refine step_val (v := str c) (w' := w') ?_ ⟨_, rfl, Ext.refl _ _, rfl⟩
          simp [execOp, h2, Result.andThen, go_sem]
        case f16 =>
          intro g w' hx hd
          refine op_run rfl ?_
          generalize hA : mkAct _ _ g = A0
          have h7 : A0.tmps[7]?.getD undef = .int .i64 k := by rw [← hA]; exact mkAct_out2 _ _ _ _ _ rfl rfl
          refine step_val (v := .int .i64 k) (w' := w') ?_ ⟨_, rfl, Ext.refl _ _, rfl⟩
          simp [execOp, h7, Result.andThen, go_sem]
        case f17 =>
          intro g w' hx hd
          refine op_run rfl ?_
          have e54 : g 54 = str c := hd ⟨15, .data⟩ (by simp) rfl
          have e55 : g 55 = .int .i64 k := hd ⟨16, .data⟩ (by simp) rfl
          generalize hA : mkAct _ _ g = A0
          have h54 : A0.tmps[54]?.getD undef = str c := by rw [← hA, mkAct_in2 _ _ _ _ rfl rfl]; exact e54
          have h55 : A0.tmps[55]?.getD undef = .int .i64 k := by rw [← hA, mkAct_in2 _ _ _ _ rfl rfl]; exact e55
          refine float_k (fun K hK => ?_)
          clear hd
          go_simp
          exact hK (str C) w' (Ext.refl _ _) rfl
        case f18 =>
          intro g w' hx hd
          refine op_run rfl ?_
          have e56 : g 56 = str C := hd ⟨17, .data⟩ (by simp) rfl
          generalize hA : mkAct _ _ g = A0
          have h56 : A0.tmps[56]?.getD undef = str C := by rw [← hA, mkAct_in2 _ _ _ _ rfl rfl]; exact e56
          refine step_val (v := .slice (some ⟨w'.heap.size, 0, none⟩) 1 1) (w' := w'.alloc (.cells #[str C] 9)) ?_ ⟨_, rfl, (Ext.refl _ _).alloc _, ⟨w'.heap.size, rfl, Rd.strs1 C rfl⟩⟩
          simp [execOp, h56, Result.andThen, go_sem]
        case f19 =>
          intro g w' hx hd
          refine op_run rfl ?_
          obtain ⟨s, e0, hr⟩ := hd ⟨18, .data⟩ (by simp) rfl
          have e0' : g 57 = .slice (some ⟨s, 0, none⟩) 1 1 := e0
          rw [show g (slotOf _ 18) = g 57 from rfl, e0'] at hr
          generalize hA : mkAct _ _ g = A0
          have h1 : A0.tmps[57]?.getD undef = .slice (some ⟨s, 0, none⟩) 1 1 := by rw [← hA, mkAct_in2 _ _ _ _ rfl rfl]; exact e0'
          refine float_k (fun K hK => ?_)
          go_simp
          refine (cC w' _ hr).mono ?_
          rintro e w2 ⟨rfl, hx2⟩
          exact hK _ w2 hx2 rfl
        case f20 =>
          intro g w' hx hd
          refine op_run rfl ?_
          have e53 : g 53 = .int .u32 (u32v sab) := hd ⟨14, .data⟩ (by simp) rfl
          have e58 : g 58 = .int .u32 (u32v sc) := hd ⟨19, .data⟩ (by simp) rfl
          generalize hA : mkAct _ _ g = A0
          have h53 : A0.tmps[53]?.getD undef = .int .u32 (u32v sab) := by rw [← hA, mkAct_in2 _ _ _ _ rfl rfl]; exact e53
          have h58 : A0.tmps[58]?.getD undef = .int .u32 (u32v sc) := by rw [← hA, mkAct_in2 _ _ _ _ rfl rfl]; exact e58
          refine step_val (v := .int .u32 (u32v sx)) (w' := w') ?_ ⟨_, rfl, Ext.refl _ _, rfl⟩
          simp [q2, execOp, h53, h58, Result.andThen, go_sem]
        case f21 =>
          intro g w' hx hd
          refine op_run rfl ?_
          have e42 : g 42 = .int .u32 (u32v sx) := hd ⟨3, .data⟩ (by simp) rfl
          have e59 : g 59 = .int .u32 (u32v sx) := hd ⟨20, .data⟩ (by simp) rfl
          generalize hA : mkAct _ _ g = A0
          have h42 : A0.tmps[42]?.getD undef = .int .u32 (u32v sx) := by rw [← hA, mkAct_in2 _ _ _ _ rfl rfl]; exact e42
          have h59 : A0.tmps[59]?.getD undef = .int .u32 (u32v sx) := by rw [← hA, mkAct_in2 _ _ _ _ rfl rfl]; exact e59
          refine step_val (v := .bool true) (w' := w') ?_ ⟨_, rfl, Ext.refl _ _, rfl⟩
          simp [execOp, h42, h59, Result.andThen, go_sem]
        case f22 =>
          intro g w' hx hd
          refine op_run rfl ?_
          have e60 : g 60 = .bool true := hd ⟨21, .data⟩ (by simp) rfl
          generalize hA : mkAct _ _ g = A0
          have h60 : A0.tmps[60]?.getD undef = .bool true := by rw [← hA, mkAct_in2 _ _ _ _ rfl rfl]; exact e60
          refine step_val (v := .bool true) (w' := w') ?_ ⟨_, rfl, Ext.refl _ _, rfl⟩
          simp [execOp, h60, Result.andThen, go_sem]
      · intro g w' hx hd
        have e6 : g 6 = .bool true := hd 22 (by decide)
        generalize hA : mkAct _ _ g = A0
        have h6 : A0.tmps.getD 6 undef = .bool true := by
          show A0.eval (.tmp 6) = _
          rw [← hA, mkAct_in _ _ _ _ rfl rfl]; exact e6
        have hdf : A0.defers = [] := by rw [← hA]; rfl
        clear hA hd e6
        go_wp2
        refine bodyPost_ret (results_tmp rfl _ _ _) hdf ?_
        rw [h6]
        exact ⟨rfl, hxr.then0 hx⟩
end Go.Proofs.Ytoeccimbechfeaa
