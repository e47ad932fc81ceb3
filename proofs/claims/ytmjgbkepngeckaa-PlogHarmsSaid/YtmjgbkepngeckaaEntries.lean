/- Layer 6's statements: Entries. (Printed by wip/gen_entries.py.) -/
import Derived.Test.YtmjgbkepngeckaaAgain6
namespace Go.Proofs.Ytmjgbkepngeckaa
open Go.RowKit
set_option linter.unusedVariables false
set_option linter.unusedSimpArgs false
attribute [local go_sem] i64_and3 i64_and65535

/-- An act by value. -/
def actC (K N T B Fl : Int) (d : List UInt8) (fv : Value) : List Value := [.int .i64 K, .int .i64 N, .int .i64 T, .int .i64 B, .int .i64 Fl, .string ⟨d.toArray⟩, fv]
def eEnt (first : Int) (len : Nat) (T : Int) (d : List UInt8) (k : Nat) : Ent := ⟨first + len + k, 1 + T % 65536, d ++ [UInt8.ofNat k]⟩
def eList (first : Int) (len : Nat) (T : Int) (d : List UInt8) (n : Nat) : List Ent := (List.range n).map (eEnt first len T d)
theorem eList_len (first : Int) (len : Nat) (T : Int) (d : List UInt8) (n : Nat) : (eList first len T d n).length = n := by simp [eList]
theorem eList_succ (first : Int) (len : Nat) (T : Int) (d : List UInt8) (n : Nat) : eList first len T d (n + 1) = eList first len T d n ++ [eEnt first len T d n] := by simp [eList, List.range_succ]
/-- The list that is made: its row is new. -/
def EnMid (w w2 : World) (a' : Option Addr) (cap' k : Nat) (xs : List Value) : Prop :=
  Own w 37 3 (.slice a' (k + 1) cap') (k + 1) xs ∧ Ext [] w2 w ∧ ∀ z ∈ vblocks (.slice a' (k + 1) cap'), w2.heap.size ≤ z
theorem wp_append_own {P : Program} {w : World} {o : Oper} {a : Act} {K : Act → World → Prop} {Q : Exit → Act → World → Prop} (s x : Operand) (t : TypeId) (hop : o.op = Op.call { callee := Callee.builtin Builtin.append, args := #[s, x], argTypes := #[t, t] })
    (e : TypeId) (z : Value) (size bytes : Nat) (hel : Elem P t e z size bytes)
    (v : Value) (n : Nat) (xs : List Value) (hs : a.eval s = v) (hv : Own w e size v n xs)
    (vx : Value) (m : Nat) (news : List Value) (hx : a.eval x = vx) (hrd : Rd w size vx m news) (h1 : ∀ u ∈ news, u.oneCell' = true)
    (hbytes : (n + m) * bytes ≤ 140737488355328) (h63 : n + m ≤ maxLen)
    (hK : ∀ v' w', Own w' e size v' (n + m) (xs ++ news) → Ext (vblocks v) w w' → (vblocks v' = vblocks v ∨ vblocks v' = [w.heap.size]) → K (a.put o.dst v') w') : o.wp P a w K Q := by
  obtain ⟨ht, hzs, i, hi, hz, hsize, hby⟩ := hel
  obtain ⟨v', w', hr, h2, h3, h4, h5⟩ := run_append_Own (P := P) w t o.type e i z size bytes ht hi hz hsize hby hzs v n xs hv vx m news hrd h1 h63 hbytes
  unfold Oper.wp
  simp [execOp, hop, resolve, invoke, builtin, hs, hx, hr, Result.andThen]
  exact hK _ _ h2 h3 h4
def enΦ (wr : World) (wq E : Nat) (first xi xt T : Int) (d : List UInt8) (c : UInt8) (k len cap : Nat) (a : Option Addr) (sv : Value) (n : Nat) (y : Value) (w : World) : Prop :=
  match n with
  | 0 => y = sv
  | 1 => y = .pointer (some ⟨wq, 0, none⟩)
  | 2 => y = .pointer (some ⟨wq, 0, none⟩)
  | 3 => y = .pointer (some ⟨wq, 2, none⟩)
  | 4 => y = .int .i64 first
  | 5 => y = .pointer (some ⟨wq, 0, none⟩)
  | 6 => y = .pointer (some ⟨wq, 0, none⟩)
  | 7 => y = .pointer (some ⟨wq, 3, none⟩)
  | 8 => y = .slice a len cap
  | 9 => y = .int .i64 (len)
  | 10 => y = .int .i64 (first + (len : Int))
  | 11 => y = .int .i64 (k)
  | 12 => y = .int .i64 xi
  | 13 => y = .pointer (some ⟨E, 2, none⟩)
  | 14 => y = .int .i64 T
  | 15 => y = .int .i64 (T % 65536)
  | 16 => y = .int .i64 xt
  | 17 => y = .pointer (some ⟨E, 5, none⟩)
  | 18 => y = .string ⟨d.toArray⟩
  | 19 => y = .int .i64 (k)
  | 20 => y = .int .u8 (k : Int)
  | 21 => ∃ z, y = .slice (some ⟨z, 0, none⟩) 1 1 ∧ wr.heap.size ≤ z ∧ Blk w z 5 [.int .u8 (k : Int)]
  | 22 => y = .string ⟨#[c]⟩
  | 23 => y = .string ⟨(d ++ [c]).toArray⟩
  | 24 => y = .agg #[.int .i64 xi, .int .i64 xt, .string ⟨(d ++ [c]).toArray⟩]
  | 25 => ∃ z, y = .slice (some ⟨z, 0, none⟩) 1 1 ∧ wr.heap.size ≤ z ∧ Blk w z 37 [.int .i64 xi, .int .i64 xt, .string ⟨(d ++ [c]).toArray⟩]
  | _ => True
def enΦT (wr : World) (wq E : Nat) (first xi xt T : Int) (d : List UInt8) (c : UInt8) (k len cap : Nat) (a : Option Addr) (sv : Value) (n : Nat) (y : Value) : Prop :=
  match n with
  | 0 => y = sv
  | 1 => y = .pointer (some ⟨wq, 0, none⟩)
  | 2 => y = .pointer (some ⟨wq, 0, none⟩)
  | 3 => y = .pointer (some ⟨wq, 2, none⟩)
  | 4 => y = .int .i64 first
  | 5 => y = .pointer (some ⟨wq, 0, none⟩)
  | 6 => y = .pointer (some ⟨wq, 0, none⟩)
  | 7 => y = .pointer (some ⟨wq, 3, none⟩)
  | 8 => y = .slice a len cap
  | 9 => y = .int .i64 (len)
  | 10 => y = .int .i64 (first + (len : Int))
  | 11 => y = .int .i64 (k)
  | 12 => y = .int .i64 xi
  | 13 => y = .pointer (some ⟨E, 2, none⟩)
  | 14 => y = .int .i64 T
  | 15 => y = .int .i64 (T % 65536)
  | 16 => y = .int .i64 xt
  | 17 => y = .pointer (some ⟨E, 5, none⟩)
  | 18 => y = .string ⟨d.toArray⟩
  | 19 => y = .int .i64 (k)
  | 20 => y = .int .u8 (k : Int)
  | 21 => True
  | 22 => y = .string ⟨#[c]⟩
  | 23 => y = .string ⟨(d ++ [c]).toArray⟩
  | 24 => y = .agg #[.int .i64 xi, .int .i64 xt, .string ⟨(d ++ [c]).toArray⟩]
  | 25 => True
  | _ => True
set_option maxRecDepth 100000 in
set_option maxHeartbeats 12800000 in
theorem entries_c {w0 w : World} {wq b q : Nat} {first : Int} {vm : Value} {all : List Ent} {O : List Nat} {a : Option Addr} {cap : Nat} (h : RSt w0 w wq b q first vm all O a cap) (K N T B Fl : Int) (d : List UInt8) (hd : d.length ≤ 200) (fv : Value) (M : Nat) (hM : N % 4 = (M : Int)) :
    Calls Try.prog 35 #[.pointer (some ⟨wq, 0, none⟩), .agg (actC K N T B Fl d fv).toArray] w fun e w' => ∃ ea ec, e = .returned (.slice ea M ec) ∧ Rd w' 3 (.slice ea M ec) M ((eList first all.length T d M).flatMap Ent.cells) ∧ (∀ z ∈ vblocks (.slice ea M ec), w.heap.size ≤ z ∧ z < w'.heap.size) ∧ Ext [] w w' := by
  obtain ⟨f1, f2⟩ := h.1.first_rng
  have h8 := h.1.len
  have hMl : M < 4 := by omega
  have hT0 : 0 ≤ T % 65536 := Int.emod_nonneg _ (by decide)
  have hT1 : T % 65536 < 65536 := Int.emod_lt_of_pos _ (by decide)
  have HR := Hid.of h.2
  obtain ⟨len, hlen⟩ : ∃ x, x = all.length := ⟨_, rfl⟩
  have HSt := Hid.of h.1
  rw [← hlen] at h8 ⊢
  have HLen := Hid.of hlen
  clear h hlen
  obtain ⟨E, hE⟩ : ∃ x, x = w.heap.size := ⟨_, rfl⟩
  obtain ⟨W, hW⟩ : ∃ W, W = w.alloc (.cells (actC K N T B Fl d fv).toArray 29) := ⟨_, rfl⟩
  have HEB : Hid (Blk W E 29 (actC K N T B Fl d fv)) := Hid.of (by rw [hE, hW]; exact Blk.new _ _ _)
  have HXW : Hid (Ext [] w W) := Hid.of (by rw [hW]; exact (Ext.refl _ _).alloc _)
  unfold actC at hW ⊢
  go_enter Try.func35, Try.ntmps35
  go_upto_region 1 with fail
  rw [← hE]
  simp only [← hW]
  clear hW
  have HE : Hid (w.heap.size ≤ E ∧ Ext [] w W) := Hid.of ⟨by omega, HXW.out⟩
  clear hE HXW
  go_upto_region 3 with fail
  go_loopw [5, 6] (fun u5 u6 wr => ∃ (k : Nat), u6 = .int .i64 (k : Int) ∧ k ≤ M ∧ Hid (Own wr 37 3 u5 k ((eList first len T d k).flatMap Ent.cells)) ∧ Hid (∀ z ∈ vblocks u5, W.heap.size ≤ z) ∧ Hid (Ext [] W wr)) (fun _ u6 _ => M - (intOf u6).toNat)
  case atStart => exact ⟨0, rfl, by omega, Own.lit W #[] _ 3 0 rfl (by omega), fun z hz => by simp [vblocks] at hz; omega, (Ext.refl _ _).alloc _⟩
  case round =>
    obtain ⟨k, rfl, hk, hO, hV, hX⟩ := hrel
    have cN : wr.cell? ⟨E, 1, none⟩ = some (.int .i64 N) := Blk.c (Blk.keep HEB.out hX.out List.not_mem_nil) 1
    by_cases hkM : k < M
    · have hkM' : (k : Int) < (M : Int) := by omega
      obtain ⟨sv, hsv⟩ : ∃ x, x = u5 := ⟨_, rfl⟩
      obtain ⟨xi, hxi⟩ : ∃ x : Int, x = first + (len : Int) + (k : Int) := ⟨_, rfl⟩
      obtain ⟨xt, hxt⟩ : ∃ x : Int, x = 1 + T % 65536 := ⟨_, rfl⟩
      obtain ⟨c, hc⟩ : ∃ c, c = UInt8.ofNat k := ⟨_, rfl⟩
      have hbc : bcells [c] = [.int .u8 (k : Int)] := by
        rw [hc]; simp only [bcells, List.map_cons, List.map_nil, UInt8.toNat_ofNat']; congr 2; omega
      have hcat : (⟨d.toArray⟩ : ByteArray) ++ ⟨#[c]⟩ = ⟨(d ++ [c]).toArray⟩ := by
        apply ByteArray.ext
        rw [ByteArray.data_append]
        simp
      have hdl : ¬ 9223372036854775807 < d.length + 1 := by omega
      have hw1 : IntKind.u8.wrap (k : Int) = (k : Int) := by rw [IntKind.wrap_u8]; omega
      have hS := HSt.out.keep (HE.out.2.then0 hX.out)
      have hbr := hS.blk
      have hEr := Blk.keep HEB.out hX.out List.not_mem_nil
      have c2 := fun w' (hx : Ext [] wr w') => Blk.c (Blk.keep hbr hx List.not_mem_nil) 2
      have c3 := fun w' (hx : Ext [] wr w') => Blk.c (Blk.keep hbr hx List.not_mem_nil) 3
      have cT : ∀ w' (hx : Ext [] wr w'), w'.cell? ⟨E, 2, none⟩ = some (.int .i64 T) := fun w' hx => Blk.c (Blk.keep hEr hx List.not_mem_nil) 2
      have cD : ∀ w' (hx : Ext [] wr w'), w'.cell? ⟨E, 5, none⟩ = some (.string ⟨d.toArray⟩) := fun w' hx => Blk.c (Blk.keep hEr hx List.not_mem_nil) 5
      simp only [List.getElem?_cons_zero, List.getElem?_cons_succ, ← HLen.out] at c2 c3
      obtain ⟨xs, hxs⟩ : ∃ x, x = (eList first len T d k).flatMap Ent.cells := ⟨_, rfl⟩
      have hOw := hO.out
      rw [← hxs, ← hsv] at hOw
      have cO := fun w' (hx : Ext [] wr w') => hOw.keep hx (by simp)
      have hone : ∀ u ∈ [Value.int .i64 xi, .int .i64 xt, .string ⟨(d ++ [c]).toArray⟩], u.oneCell' = true := by
        intro u hu
        simp at hu
        rcases hu with rfl | rfl | rfl <;> rfl
      have hVs := hV.out
      rw [← hsv] at hVs
      have cEnd : ∀ w' w2 a' cap', Ext [] wr w' → Own w2 37 3 (.slice a' (k + 1) cap') (k + 1) (xs ++ [.int .i64 xi, .int .i64 xt, .string ⟨(d ++ [c]).toArray⟩]) → Ext (vblocks sv) w' w2 → (vblocks (.slice a' (k + 1) cap') = vblocks sv ∨ vblocks (.slice a' (k + 1) cap') = [w'.heap.size]) → EnMid w2 W a' cap' k (xs ++ [.int .i64 xi, .int .i64 xt, .string ⟨(d ++ [c]).toArray⟩]) := by
        intro w' w2 a' cap' hx ho hx2 hv
        refine ⟨ho, (hX.out.then0 hx).trans hx2 (fun z hz => .inr (hVs z hz)), fun z hz => ?_⟩
        rcases hv with h | h
        · rw [h] at hz; exact hVs z hz
        · rw [h] at hz
          have h1 := (hX.out.then0 hx).size
          simp at hz
          omega
      have HXs : Hid ((eList first len T d (k + 1)).flatMap Ent.cells = xs ++ [.int .i64 xi, .int .i64 xt, .string ⟨(d ++ [c]).toArray⟩]) := Hid.of (by rw [eList_succ, List.flatMap_append, ← hxs, hxi, hxt, hc]; rfl)
      have HEn := Hid.of cEnd
      have HSv := Hid.of hsv
      have HXi := Hid.of (And.intro hxi hxt)
      have hxi1 : first + (len : Int) + (k : Int) = xi := hxi.symm
      have hxt1 : 1 + T % 65536 = xt := hxt.symm
      clear hxs hbr hEr hS hOw hVs hxi hxt cEnd hc
      go_upto_region 5 with fail
      rw [← hsv]
      clear hsv cN
      have cEnd := HEn.out
      refine wp_region_stepsm [15, 16, 17, 18, 19, 20, 21, 22, 23, 24, 25, 26, 27, 28, 29, 30, 31, 32, 33, 34, 35, 36, 37, 38, 39, 40, 41, 5] 26 (enΦ wr wq E first xi xt T d c k len cap a sv) (enΦT wr wq E first xi xt T d c k len cap a sv) (fun v w => ∃ a' cap', v = .slice a' (k + 1) cap' ∧ EnMid w W a' cap' k (xs ++ [.int .i64 xi, .int .i64 xt, .string ⟨(d ++ [c]).toArray⟩])) (fun v n y => match n with | 27 => y = v | _ => True) (by kernel_rfl) (by kernel_rfl) (fun n y w w' h hx => by unfold enΦ at h ⊢; split at h; all_goals first | exact h | (obtain ⟨z, h1, h2, h3⟩ := h; exact ⟨z, h1, h2, Blk.keep h3 hx List.not_mem_nil⟩)) (fun n y w' hn h => by unfold enΦ at h; unfold enΦT; split at h <;> first | exact h | trivial) ?hst_5 ?hend_5
      case hst_5 =>
        refine ⟨?f0_5, ?f1_5, ?f2_5, ?f3_5, ?f4_5, ?f5_5, ?f6_5, ?f7_5, ?f8_5, ?f9_5, ?f10_5, ?f11_5, ?f12_5, ?f13_5, ?f14_5, ?f15_5, ?f16_5, ?f17_5, ?f18_5, ?f19_5, ?f20_5, ?f21_5, ?f22_5, ?f23_5, ?f24_5, ?f25_5, ?f26_5, ?f27_5, trivial⟩
        case f0_5 =>
          refine (if_pos (by decide)).mpr ?_
          intro g w' hx hd hb
          refine op_run rfl ?_
          have e5 : g 5 = sv := hb 27 (by decide) (by decide) (Option.some_ne_none _)
          generalize hA : mkAct _ _ g = A
          have h5 : A.tmps[5]?.getD undef = sv := by rw [← hA, mkAct_in2 _ _ _ _ rfl rfl]; exact e5
          refine step_val (v := sv) (w' := w') ?_ ⟨_, rfl, Ext.refl _ _, rfl⟩
          simp [execOp, h5, Result.andThen, go_sem]
        case f1_5 =>
          refine (if_pos (by decide)).mpr ?_
          intro g w' hx hd hb
          refine op_run rfl ?_
          generalize hA : mkAct _ _ g = A
          have h0 : A.tmps[0]?.getD undef = .pointer (some ⟨wq, 0, none⟩) := by rw [← hA]; exact mkAct_out2 _ _ _ _ _ rfl rfl
          refine step_val (v := .pointer (some ⟨wq, 0, none⟩)) (w' := w') ?_ ⟨_, rfl, Ext.refl _ _, rfl⟩
          simp [execOp, h0, Result.andThen, go_sem]
        case f2_5 =>
          refine (if_pos (by decide)).mpr ?_
          intro g w' hx hd hb
          refine op_run rfl ?_
          have e16 : g 16 = .pointer (some ⟨wq, 0, none⟩) := hd ⟨1, .data⟩ (by simp) rfl
          generalize hA : mkAct _ _ g = A
          have h16 : A.tmps[16]?.getD undef = .pointer (some ⟨wq, 0, none⟩) := by rw [← hA, mkAct_in2 _ _ _ _ rfl rfl]; exact e16
          refine step_val (v := .pointer (some ⟨wq, 0, none⟩)) (w' := w') ?_ ⟨_, rfl, Ext.refl _ _, rfl⟩
          simp [execOp, h16, Result.andThen, go_sem]
        case f3_5 =>
          refine (if_pos (by decide)).mpr ?_
          intro g w' hx hd hb
          refine op_run rfl ?_
          have e17 : g 17 = .pointer (some ⟨wq, 0, none⟩) := hd ⟨2, .data⟩ (by simp) rfl
          generalize hA : mkAct _ _ g = A
          have h17 : A.tmps[17]?.getD undef = .pointer (some ⟨wq, 0, none⟩) := by rw [← hA, mkAct_in2 _ _ _ _ rfl rfl]; exact e17
          refine step_val (v := .pointer (some ⟨wq, 2, none⟩)) (w' := w') ?_ ⟨_, rfl, Ext.refl _ _, rfl⟩
          simp [execOp, h17, Result.andThen, go_sem]
        case f4_5 =>
          refine (if_pos (by decide)).mpr ?_
          intro g w' hx hd hb
          refine op_run rfl ?_
          have e18 : g 18 = .pointer (some ⟨wq, 2, none⟩) := hd ⟨3, .data⟩ (by simp) rfl
          generalize hA : mkAct _ _ g = A
          have h18 : A.tmps[18]?.getD undef = .pointer (some ⟨wq, 2, none⟩) := by rw [← hA, mkAct_in2 _ _ _ _ rfl rfl]; exact e18
          have c := c2 w' hx
          refine step_val (v := .int .i64 first) (w' := w') ?_ ⟨_, rfl, Ext.refl _ _, rfl⟩
          simp [execOp, h18, c, Result.andThen, go_sem]
        case f5_5 =>
          refine (if_pos (by decide)).mpr ?_
          intro g w' hx hd hb
          refine op_run rfl ?_
          generalize hA : mkAct _ _ g = A
          have h0 : A.tmps[0]?.getD undef = .pointer (some ⟨wq, 0, none⟩) := by rw [← hA]; exact mkAct_out2 _ _ _ _ _ rfl rfl
          refine step_val (v := .pointer (some ⟨wq, 0, none⟩)) (w' := w') ?_ ⟨_, rfl, Ext.refl _ _, rfl⟩
          simp [execOp, h0, Result.andThen, go_sem]
        case f6_5 =>
          refine (if_pos (by decide)).mpr ?_
          intro g w' hx hd hb
          refine op_run rfl ?_
          have e20 : g 20 = .pointer (some ⟨wq, 0, none⟩) := hd ⟨5, .data⟩ (by simp) rfl
          generalize hA : mkAct _ _ g = A
          have h20 : A.tmps[20]?.getD undef = .pointer (some ⟨wq, 0, none⟩) := by rw [← hA, mkAct_in2 _ _ _ _ rfl rfl]; exact e20
          refine step_val (v := .pointer (some ⟨wq, 0, none⟩)) (w' := w') ?_ ⟨_, rfl, Ext.refl _ _, rfl⟩
          simp [execOp, h20, Result.andThen, go_sem]
        case f7_5 =>
          refine (if_pos (by decide)).mpr ?_
          intro g w' hx hd hb
          refine op_run rfl ?_
          have e21 : g 21 = .pointer (some ⟨wq, 0, none⟩) := hd ⟨6, .data⟩ (by simp) rfl
          generalize hA : mkAct _ _ g = A
          have h21 : A.tmps[21]?.getD undef = .pointer (some ⟨wq, 0, none⟩) := by rw [← hA, mkAct_in2 _ _ _ _ rfl rfl]; exact e21
          refine step_val (v := .pointer (some ⟨wq, 3, none⟩)) (w' := w') ?_ ⟨_, rfl, Ext.refl _ _, rfl⟩
          simp [execOp, h21, Result.andThen, go_sem]
        case f8_5 =>
          refine (if_pos (by decide)).mpr ?_
          intro g w' hx hd hb
          refine op_run rfl ?_
          have e22 : g 22 = .pointer (some ⟨wq, 3, none⟩) := hd ⟨7, .data⟩ (by simp) rfl
          generalize hA : mkAct _ _ g = A
          have h22 : A.tmps[22]?.getD undef = .pointer (some ⟨wq, 3, none⟩) := by rw [← hA, mkAct_in2 _ _ _ _ rfl rfl]; exact e22
          have c := c3 w' hx
          refine step_val (v := .slice a len cap) (w' := w') ?_ ⟨_, rfl, Ext.refl _ _, rfl⟩
          simp [execOp, h22, c, Result.andThen, go_sem]
        case f9_5 =>
          refine (if_pos (by decide)).mpr ?_
          intro g w' hx hd hb
          refine op_run rfl ?_
          have e23 : g 23 = .slice a len cap := hd ⟨8, .data⟩ (by simp) rfl
          generalize hA : mkAct _ _ g = A
          have h23 : A.tmps[23]?.getD undef = .slice a len cap := by rw [← hA, mkAct_in2 _ _ _ _ rfl rfl]; exact e23
          refine step_val (v := .int .i64 (len)) (w' := w') ?_ ⟨_, rfl, Ext.refl _ _, rfl⟩
          simp [execOp, h23, Result.andThen, go_sem]
        case f10_5 =>
          refine (if_pos (by decide)).mpr ?_
          intro g w' hx hd hb
          refine op_run rfl ?_
          have e19 : g 19 = .int .i64 first := hd ⟨4, .data⟩ (by simp) rfl
          have e24 : g 24 = .int .i64 (len) := hd ⟨9, .data⟩ (by simp) rfl
          generalize hA : mkAct _ _ g = A
          have h19 : A.tmps[19]?.getD undef = .int .i64 first := by rw [← hA, mkAct_in2 _ _ _ _ rfl rfl]; exact e19
          have h24 : A.tmps[24]?.getD undef = .int .i64 (len) := by rw [← hA, mkAct_in2 _ _ _ _ rfl rfl]; exact e24
          refine step_val (v := .int .i64 (first + (len : Int))) (w' := w') ?_ ⟨_, rfl, Ext.refl _ _, rfl⟩
          simp [execOp, h19, h24, Result.andThen, go_sem]
          exact IntWalk.i64_in _ ⟨by omega, by omega⟩
        case f11_5 =>
          refine (if_pos (by decide)).mpr ?_
          intro g w' hx hd hb
          refine op_run rfl ?_
          generalize hA : mkAct _ _ g = A
          have h6 : A.tmps[6]?.getD undef = .int .i64 (k) := by rw [← hA]; exact mkAct_out2 _ _ _ _ _ rfl rfl
          refine step_val (v := .int .i64 (k)) (w' := w') ?_ ⟨_, rfl, Ext.refl _ _, rfl⟩
          simp [execOp, h6, Result.andThen, go_sem]
        case f12_5 =>
          refine (if_pos (by decide)).mpr ?_
          intro g w' hx hd hb
          refine op_run rfl ?_
          have e25 : g 25 = .int .i64 (first + (len : Int)) := hd ⟨10, .data⟩ (by simp) rfl
          have e26 : g 26 = .int .i64 (k) := hd ⟨11, .data⟩ (by simp) rfl
          generalize hA : mkAct _ _ g = A
          have h25 : A.tmps[25]?.getD undef = .int .i64 (first + (len : Int)) := by rw [← hA, mkAct_in2 _ _ _ _ rfl rfl]; exact e25
          have h26 : A.tmps[26]?.getD undef = .int .i64 (k) := by rw [← hA, mkAct_in2 _ _ _ _ rfl rfl]; exact e26
          refine step_val (v := .int .i64 xi) (w' := w') ?_ ⟨_, rfl, Ext.refl _ _, rfl⟩
          simp [execOp, h25, h26, Result.andThen, go_sem]
          rw [← hxi1]
          exact IntWalk.i64_in _ ⟨by omega, by omega⟩
        case f13_5 =>
          refine (if_pos (by decide)).mpr ?_
          intro g w' hx hd hb
          refine op_run rfl ?_
          generalize hA : mkAct _ _ g = A
          have h3 : A.tmps[3]?.getD undef = .pointer (some ⟨E, 0, none⟩) := by rw [← hA]; exact mkAct_out2 _ _ _ _ _ rfl rfl
          refine step_val (v := .pointer (some ⟨E, 2, none⟩)) (w' := w') ?_ ⟨_, rfl, Ext.refl _ _, rfl⟩
          simp [execOp, h3, Result.andThen, go_sem]
        case f14_5 =>
          refine (if_pos (by decide)).mpr ?_
          intro g w' hx hd hb
          refine op_run rfl ?_
          have e28 : g 28 = .pointer (some ⟨E, 2, none⟩) := hd ⟨13, .data⟩ (by simp) rfl
          generalize hA : mkAct _ _ g = A
          have h28 : A.tmps[28]?.getD undef = .pointer (some ⟨E, 2, none⟩) := by rw [← hA, mkAct_in2 _ _ _ _ rfl rfl]; exact e28
          have c := cT w' hx
          refine step_val (v := .int .i64 T) (w' := w') ?_ ⟨_, rfl, Ext.refl _ _, rfl⟩
          simp [execOp, h28, c, Result.andThen, go_sem]
        case f15_5 =>
          refine (if_pos (by decide)).mpr ?_
          intro g w' hx hd hb
          refine op_run rfl ?_
          have e29 : g 29 = .int .i64 T := hd ⟨14, .data⟩ (by simp) rfl
          generalize hA : mkAct _ _ g = A
          have h29 : A.tmps[29]?.getD undef = .int .i64 T := by rw [← hA, mkAct_in2 _ _ _ _ rfl rfl]; exact e29
          refine step_val (v := .int .i64 (T % 65536)) (w' := w') ?_ ⟨_, rfl, Ext.refl _ _, rfl⟩
          simp [execOp, h29, Result.andThen, go_sem]
        case f16_5 =>
          refine (if_pos (by decide)).mpr ?_
          intro g w' hx hd hb
          refine op_run rfl ?_
          have e30 : g 30 = .int .i64 (T % 65536) := hd ⟨15, .data⟩ (by simp) rfl
          generalize hA : mkAct _ _ g = A
          have h30 : A.tmps[30]?.getD undef = .int .i64 (T % 65536) := by rw [← hA, mkAct_in2 _ _ _ _ rfl rfl]; exact e30
          refine step_val (v := .int .i64 xt) (w' := w') ?_ ⟨_, rfl, Ext.refl _ _, rfl⟩
          simp [execOp, h30, Result.andThen, go_sem]
          rw [← hxt1]
          exact IntWalk.i64_in _ ⟨by omega, by omega⟩
        case f17_5 =>
          refine (if_pos (by decide)).mpr ?_
          intro g w' hx hd hb
          refine op_run rfl ?_
          generalize hA : mkAct _ _ g = A
          have h3 : A.tmps[3]?.getD undef = .pointer (some ⟨E, 0, none⟩) := by rw [← hA]; exact mkAct_out2 _ _ _ _ _ rfl rfl
          refine step_val (v := .pointer (some ⟨E, 5, none⟩)) (w' := w') ?_ ⟨_, rfl, Ext.refl _ _, rfl⟩
          simp [execOp, h3, Result.andThen, go_sem]
        case f18_5 =>
          refine (if_pos (by decide)).mpr ?_
          intro g w' hx hd hb
          refine op_run rfl ?_
          have e32 : g 32 = .pointer (some ⟨E, 5, none⟩) := hd ⟨17, .data⟩ (by simp) rfl
          generalize hA : mkAct _ _ g = A
          have h32 : A.tmps[32]?.getD undef = .pointer (some ⟨E, 5, none⟩) := by rw [← hA, mkAct_in2 _ _ _ _ rfl rfl]; exact e32
          have c := cD w' hx
          refine step_val (v := .string ⟨d.toArray⟩) (w' := w') ?_ ⟨_, rfl, Ext.refl _ _, rfl⟩
          simp [execOp, h32, c, Result.andThen, go_sem]
        case f19_5 =>
          refine (if_pos (by decide)).mpr ?_
          intro g w' hx hd hb
          refine op_run rfl ?_
          generalize hA : mkAct _ _ g = A
          have h6 : A.tmps[6]?.getD undef = .int .i64 (k) := by rw [← hA]; exact mkAct_out2 _ _ _ _ _ rfl rfl
          refine step_val (v := .int .i64 (k)) (w' := w') ?_ ⟨_, rfl, Ext.refl _ _, rfl⟩
          simp [execOp, h6, Result.andThen, go_sem]
        case f20_5 =>
          refine (if_pos (by decide)).mpr ?_
          intro g w' hx hd hb
          refine op_run rfl ?_
          have e34 : g 34 = .int .i64 (k) := hd ⟨19, .data⟩ (by simp) rfl
          generalize hA : mkAct _ _ g = A
          have h34 : A.tmps[34]?.getD undef = .int .i64 (k) := by rw [← hA, mkAct_in2 _ _ _ _ rfl rfl]; exact e34
          refine step_val (v := .int .u8 (k : Int)) (w' := w') ?_ ⟨_, rfl, Ext.refl _ _, rfl⟩
          simp [execOp, hw1, h34, Result.andThen, go_sem]
        case f21_5 =>
          refine (if_pos (by decide)).mpr ?_
          intro g w' hx hd hb
          refine op_run rfl ?_
          have e35 : g 35 = .int .u8 (k : Int) := hd ⟨20, .data⟩ (by simp) rfl
          generalize hA : mkAct _ _ g = A
          have h35 : A.tmps[35]?.getD undef = .int .u8 (k : Int) := by rw [← hA, mkAct_in2 _ _ _ _ rfl rfl]; exact e35
          refine step_val (v := .slice (some ⟨w'.heap.size, 0, none⟩) 1 1) (w' := w'.alloc (.cells #[.int .u8 (k : Int)] 5)) ?_ ⟨_, rfl, (Ext.refl _ _).alloc _, w'.heap.size, rfl, hx.size, Blk.new w' 5 #[.int .u8 (k : Int)]⟩
          simp [execOp, h35, Result.andThen, go_sem]
        case f22_5 =>
          refine (if_pos (by decide)).mpr ?_
          intro g w' hx hd hb
          refine op_run rfl ?_
          obtain ⟨z, e36, hz, hb2⟩ := hd ⟨21, .data⟩ (by simp) rfl
          generalize hA : mkAct _ _ g = A
          have h36 : A.tmps[36]?.getD undef = .slice (some ⟨z, 0, none⟩) 1 1 := by rw [← hA, mkAct_in2 _ _ _ _ rfl rfl]; exact e36
          have hcv := run_string_Rd (P := Try.prog) (w := w') 62 9 5 Try.underlying62 Try.underlying5 Try.underlying9 (.slice (some ⟨z, 0, none⟩) 1 1) 1 [c] (by rw [hbc]; exact Rd.ofBlk hb2 rfl (by unfold maxLen; omega))
          refine step_val (v := .string ⟨#[c]⟩) (w' := w') ?_ ⟨_, rfl, Ext.refl _ _, rfl⟩
          simp [execOp, h36, hcv, Result.andThen, go_sem]
        case f23_5 =>
          refine (if_pos (by decide)).mpr ?_
          intro g w' hx hd hb
          refine op_run rfl ?_
          have e33 : g 33 = .string ⟨d.toArray⟩ := hd ⟨18, .data⟩ (by simp) rfl
          have e37 : g 37 = .string ⟨#[c]⟩ := hd ⟨22, .data⟩ (by simp) rfl
          generalize hA : mkAct _ _ g = A
          have h33 : A.tmps[33]?.getD undef = .string ⟨d.toArray⟩ := by rw [← hA, mkAct_in2 _ _ _ _ rfl rfl]; exact e33
          have h37 : A.tmps[37]?.getD undef = .string ⟨#[c]⟩ := by rw [← hA, mkAct_in2 _ _ _ _ rfl rfl]; exact e37
          refine step_val (v := .string ⟨(d ++ [c]).toArray⟩) (w' := w') ?_ ⟨_, rfl, Ext.refl _ _, rfl⟩
          simp [execOp, h33, h37, Result.andThen, go_sem, hcat, hdl]
        case f24_5 =>
          refine (if_pos (by decide)).mpr ?_
          intro g w' hx hd hb
          refine op_run rfl ?_
          have e27 : g 27 = .int .i64 xi := hd ⟨12, .data⟩ (by simp) rfl
          have e31 : g 31 = .int .i64 xt := hd ⟨16, .data⟩ (by simp) rfl
          have e38 : g 38 = .string ⟨(d ++ [c]).toArray⟩ := hd ⟨23, .data⟩ (by simp) rfl
          generalize hA : mkAct _ _ g = A
          have h27 : A.tmps[27]?.getD undef = .int .i64 xi := by rw [← hA, mkAct_in2 _ _ _ _ rfl rfl]; exact e27
          have h31 : A.tmps[31]?.getD undef = .int .i64 xt := by rw [← hA, mkAct_in2 _ _ _ _ rfl rfl]; exact e31
          have h38 : A.tmps[38]?.getD undef = .string ⟨(d ++ [c]).toArray⟩ := by rw [← hA, mkAct_in2 _ _ _ _ rfl rfl]; exact e38
          refine step_val (v := .agg #[.int .i64 xi, .int .i64 xt, .string ⟨(d ++ [c]).toArray⟩]) (w' := w') ?_ ⟨_, rfl, Ext.refl _ _, rfl⟩
          simp [execOp, h27, h31, h38, Result.andThen, go_sem]
        case f25_5 =>
          refine (if_pos (by decide)).mpr ?_
          intro g w' hx hd hb
          refine op_run rfl ?_
          have e39 : g 39 = .agg #[.int .i64 xi, .int .i64 xt, .string ⟨(d ++ [c]).toArray⟩] := hd ⟨24, .data⟩ (by simp) rfl
          generalize hA : mkAct _ _ g = A
          have h39 : A.tmps[39]?.getD undef = .agg #[.int .i64 xi, .int .i64 xt, .string ⟨(d ++ [c]).toArray⟩] := by rw [← hA, mkAct_in2 _ _ _ _ rfl rfl]; exact e39
          refine step_val (v := .slice (some ⟨w'.heap.size, 0, none⟩) 1 1) (w' := w'.alloc (.cells #[.int .i64 xi, .int .i64 xt, .string ⟨(d ++ [c]).toArray⟩] 37)) ?_ ⟨_, rfl, (Ext.refl _ _).alloc _, w'.heap.size, rfl, hx.size, Blk.new w' 37 #[.int .i64 xi, .int .i64 xt, .string ⟨(d ++ [c]).toArray⟩]⟩
          simp [execOp, h39, Result.andThen, go_sem]
        case f26_5 =>
          refine (if_neg (by decide)).mpr ((if_pos rfl).mpr ?_)
          intro g w' hx hd hb
          refine op_run rfl ?_
          have e15 : g 15 = sv := hd 0 (by decide)
          obtain ⟨z, e40, hz, hb2⟩ := hd 25 (by decide)
          replace e40 : g 40 = _ := e40
          generalize hA : mkAct _ _ g = A
          have h15 : A.eval (.tmp 15) = sv := by rw [← hA, mkAct_in _ _ _ _ rfl rfl]; exact e15
          have h40 : A.eval (.tmp 40) = .slice (some ⟨z, 0, none⟩) 1 1 := by rw [← hA, mkAct_in _ _ _ _ rfl rfl]; exact e40
          refine wp_append_own (.tmp 15) (.tmp 40) 33 rfl 37 _ 3 32 el_ents sv k xs h15 (cO w' hx) (.slice (some ⟨z, 0, none⟩) 1 1) 1 [.int .i64 xi, .int .i64 xt, .string ⟨(d ++ [c]).toArray⟩] h40 (Rd.ofBlk hb2 rfl (by unfold maxLen; omega)) hone (by omega) (by unfold maxLen; omega) (fun v' w2 hr2 hx2 hv2 => ?_)
          obtain ⟨a', cap', rfl⟩ := Rd.isSlice hr2.rd
          exact ⟨_, rfl, a', cap', rfl, cEnd w' w2 a' cap' hx hr2 hx2 hv2⟩
        case f27_5 =>
          refine (if_neg (by decide)).mpr ((if_neg (by decide)).mpr ?_)
          intro g v w' hM hT hv hd
          refine op_run rfl ?_
          obtain ⟨a', cap', rfl, -⟩ := hM
          have e41 := hv (Option.some_ne_none _)
          replace e41 : g 41 = _ := e41
          generalize hA : mkAct _ _ g = A
          have h41 : A.tmps[41]?.getD undef = g 41 := by rw [← hA]; exact mkAct_in2 _ _ _ _ rfl rfl
          rw [e41] at h41
          refine step_val (w' := w') ?_ ⟨_, rfl, rfl, rfl⟩
          simp [execOp, h41, tupAt, Result.andThen, go_sem]
      intro g v wn hM_ hT hv hd_
      obtain ⟨a', cap', rfl, hEM⟩ := hM_
      have e5 : g 5 = .slice a' (k + 1) cap' := hd_ 27 (by decide) (by decide)
      clear hd_ hv hT cEnd HEn c2 c3 cT cD cO
      unfold mkAct; simp only [List.zipIdx_cons, List.zipIdx_nil, List.map_cons, List.map_nil, Nat.zero_add, Nat.reduceAdd, List.contains_cons, List.contains_nil, Nat.reduceBEq, Bool.or_false, Bool.or_true, ↓reduceIte, Bool.false_eq_true]
      rw [e5]
      clear e5
      have HEM := Hid.of hEM
      clear hEM hone
      go_wp2
      exact ⟨⟨k + 1, by congr 1, by omega, by rw [Hid.out HXs]; exact HEM.out.1, HEM.out.2.2, HEM.out.2.1⟩, by simp [intOf]; omega⟩
    · obtain rfl : k = M := by omega
      obtain ⟨ea, ec, rfl⟩ := Rd.isSlice hO.out.rd
      go_wp2
      go_ret
      exact ⟨ea, ec, rfl, hO.out.rd, fun z hz => by have := hV.out z hz; have := HE.out.2.size; have := hO.out.lt z hz; omega, HE.out.2.then0 hX.out⟩
end Go.Proofs.Ytmjgbkepngeckaa
