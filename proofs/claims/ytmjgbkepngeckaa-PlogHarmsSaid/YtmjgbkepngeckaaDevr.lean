/- The device's Read: the loop over slices.Backward. -/
import Derived.Test.YtmjgbkepngeckaaDevb
import Derived.Test.YtmjgbkepngeckaaHeld
import Derived.RangeFuncNested
import Derived.RangeFuncBound
import Derived.RangeFuncCalls
import Derived.RangeFuncLeaves
import Derived.Shelf.Abstract
import Derived.Shelf.RegionOpen
import Derived.OwnWalkIn
import Derived.TacticsInMore
import Derived.LoopNIn
import Derived.LoopIn
namespace Go.Proofs.Ytmjgbkepngeckaa
open Go.RowKit Go.Shelf
set_option linter.unusedVariables false
attribute [local go_sem] Oper.semAt_some

theorem Blk.turn {A B : World} {g : Nat} {t : TypeId} {cs : List Value} {row : Option Nat} (h : Blk A g t cs) (hg : A.grownBy B row) (hr : ∀ r, row = some r → ∃ o : Obj, A.heap[r]? = some o ∧ o.isCells = false) : Blk B g t cs := by
  refine (hg.block g h.lt (fun e => ?_)).trans h
  obtain ⟨o, ho, hc⟩ := hr g e.symm
  rw [show A.heap[g]? = _ from h] at ho
  cases ho; cases hc
theorem Blk.below {A B : World} {n g : Nat} {t : TypeId} {cs : List Value} (h : Blk A g t cs) (hb : Below n A B) (hn : g < n) : Blk B g t cs := (hb.block g hn).trans h

/-- What has come when k rounds are over: f 0, .., f (k - 1). -/
def upto {α : Type} (f : Nat → α) (k : Nat) : List α := (List.range k).map f
theorem upto_succ {α : Type} (f : Nat → α) (k : Nat) : upto f (k + 1) = upto f k ++ [f k] := by simp [upto, List.range_succ]
theorem upto_length {α : Type} (f : Nat → α) (k : Nat) : (upto f k).length = k := by simp [upto]
/-- The j-th from the end, with its index. -/
def backF (l : List (Int × List UInt8)) (j : Nat) : Int × (Int × List UInt8) := ((l.length : Int) - 1 - j, l.getD (l.length - 1 - j) (0, []))

theorem lastW_append (a b : List (Int × List UInt8)) (k : Int) : lastW (a ++ b) k = match lastW b k with | some s => some s | none => lastW a k := by
  induction a with
  | nil => simp [lastW]; cases lastW b k <;> rfl
  | cons x a ih =>
    rw [List.cons_append, lastW, ih]
    cases lastW b k <;> rfl
theorem lastW_none {l : List (Int × List UInt8)} {k : Int} (h : ∀ c ∈ l, c.1 ≠ k) : lastW l k = none := by
  induction l with
  | nil => rfl
  | cons x l ih => rw [lastW, ih (fun c hc => h c (by simp [hc]))]; simp [h x (by simp)]
theorem back_none {l : List (Int × List UInt8)} {k : Int} (h : ∀ p ∈ upto (backF l) l.length, p.2.1 ≠ k) : lastW l k = none := by
  refine lastW_none fun c hc => ?_
  obtain ⟨i, hi, rfl⟩ := List.mem_iff_getElem.1 hc
  have := h (backF l (l.length - 1 - i)) (by simp only [upto, List.mem_map, List.mem_range]; exact ⟨_, by omega, rfl⟩)
  simp only [backF, show l.length - 1 - (l.length - 1 - i) = i by omega] at this
  simpa [List.getD, hi] using this
theorem back_some {l : List (Int × List UInt8)} {k : Int} {j : Nat} (hj : j < l.length) (h : ∀ p ∈ upto (backF l) j, p.2.1 ≠ k) (hk : (backF l j).2.1 = k) : lastW l k = some (backF l j).2.2 := by
  have e : l = l.take (l.length - 1 - j) ++ ([l[l.length - 1 - j]'(by omega)] ++ l.drop (l.length - j)) := by
    rw [← List.append_assoc, ← List.take_succ_eq_append_getElem, show l.length - 1 - j + 1 = l.length - j by omega, List.take_append_drop]
  have hb : backF l j = ((l.length : Int) - 1 - j, l[l.length - 1 - j]'(by omega)) := by simp [backF, List.getD, show l.length - 1 - j < l.length by omega]
  have hd : lastW (l.drop (l.length - j)) k = none := by
    refine lastW_none fun c hc => ?_
    obtain ⟨i, hi, rfl⟩ := List.mem_iff_getElem.1 hc
    rw [List.length_drop] at hi
    have := h (backF l (j - 1 - i)) (by simp only [upto, List.mem_map, List.mem_range]; exact ⟨_, by omega, rfl⟩)
    simp only [backF, show l.length - 1 - (j - 1 - i) = l.length - j + i by omega] at this
    simpa [List.getD, show l.length - j + i < l.length by omega] using this
  rw [hb] at hk ⊢
  simp only at hk ⊢
  generalize l[l.length - 1 - j]'(by omega) = x at *
  rw [e, lastW_append, lastW_append, hd]
  simp [lastW, hk]

set_option maxRecDepth 100000 in
set_option maxHeartbeats 2000000 in
/-- slices.Backward's closure, for every loop body that keeps what lay below n₀. -/
theorem back1_in (F : Fence) (n : Nat) (h7 : F.fn 59) (hro : F.round = none) (hn : 1 ≤ n) (l Bs n₀ b off cap : Nat) (zs : List (Int × List UInt8)) (hlen : zs.length ≤ 9223372036854775807) (hb : b < n₀) (hB : Bs < n₀) (J Jx : List (Int × (Int × List UInt8)) → World → Prop)
    (hY : ∀ pre x W, J pre W → pre.length < zs.length → YieldAt F (n - 1) Try.prog l #[.int .i64 x.1, .agg #[.int .i64 x.2.1, str x.2.2]] W fun e W' =>
      (e = .returned (.bool true) ∧ J (pre ++ [x]) W' ∧ Below n₀ W W') ∨ (e = .returned (.bool false) ∧ Jx (pre ++ [x]) W'))
    (W : World) (hBs : W.cell? ⟨Bs, 0, none⟩ = some (.slice (some ⟨b, off, none⟩) zs.length cap)) (hc : ∀ j u, (chgs zs)[j]? = some u → W.cell? ⟨b, off + j, none⟩ = some u) (h0 : J [] W) :
    CallsIn F n Try.prog 59 #[.func (.yield l) #[] #[], .pointer (some ⟨Bs, 0, none⟩)] W fun e W' => (∃ v, e = .returned v) ∧
      ((∃ ys, ys = upto (backF zs) zs.length ∧ J ys W') ∨ (∃ pre, (∃ k, k ≤ zs.length ∧ pre = upto (backF zs) k) ∧ Jx pre W')) := by
  refine callsIn_of_wp Try.func59 rfl h7 ?_ hro
  simp only [Try.ntmps59, List.size_toArray, List.length_cons, List.length_nil, Nat.reduceAdd, Nat.reduceSub, Array.replicate_succ, Array.replicate_zero, List.push_toArray, List.append_toArray, List.nil_append, List.cons_append]
  gi_wp2
  gi_loopw [3] (fun i wr => ∃ k : Nat, k ≤ zs.length ∧ i = .int .i64 ((zs.length : Int) - 1 - k) ∧ J (upto (backF zs) k) wr ∧ Below n₀ W wr)
    (fun i _ => (intOf i + 1).toNat)
  case atStart => exact ⟨0, Nat.zero_le _, by simp, h0, Below.refl _ _⟩
  case round =>
    obtain ⟨k, hk, rfl, hJs, hnx⟩ := hrel
    by_cases hlt : k < zs.length
    · obtain ⟨m, hm⟩ : ∃ m : Nat, (zs.length : Int) - 1 - k = m := ⟨zs.length - 1 - k, by omega⟩
      have hml : m < zs.length := by omega
      have hme : zs.length - 1 - k = m := by omega
      have hbf : backF zs k = ((m : Int), zs[m]) := by unfold backF; rw [hm, hme]; simp [List.getD, hml]
      have hg2 := chgs_get zs m hml
      have c0 := (hnx.cell (p := ⟨b, off + m * 2, none⟩) hb).trans (hc _ _ hg2.1)
      have c1 := (hnx.cell (p := ⟨b, off + (m * 2 + 1), none⟩) hb).trans (hc _ _ hg2.2)
      have cB := (hnx.cell (p := ⟨Bs, 0, none⟩) hB).trans hBs
      rw [← Nat.add_assoc] at c1
      obtain ⟨x, hx⟩ : ∃ x, x = zs[m] := ⟨_, rfl⟩
      rw [← hx] at hbf c0 c1
      obtain ⟨xk, xs⟩ := x
      simp only at c0 c1
      obtain ⟨fn, tmps, assign, body, hy, hR⟩ := hY _ ((m : Int), (xk, xs)) wr hJs (by rw [upto_length]; exact hlt)
      dsimp only at hy
      have HU : Hid (upto (backF zs) (k + 1) = upto (backF zs) k ++ [((m : Int), (xk, xs))]) := by show _ = _; rw [upto_succ, hbf]
      rw [hm]
      have hm3 : m < 9223372036854775807 := by omega
      have HM : Hid ((zs.length : Int) - 1 - ((k + 1 : Nat) : Int) = (m : Int) - 1) := by show _ = _; omega
      clear hm hme hbf hx hg2 hc
      gi_wp2
      refine hR.mono ?_
      rintro e W3 (⟨rfl, hJ3, hk3⟩ | ⟨rfl, hJx3⟩)
      · gi_wp2
        go_roundw
        case rel => exact ⟨k + 1, by omega, by rw [HM.out], by rw [HU.out]; exact hJ3, hnx.trans hk3⟩
        case measure => simp [intOf]
      · gi_wp2
        refine bodyPost_ret (results_none rfl _ _ _) rfl ?_
        exact ⟨⟨_, rfl⟩, .inr ⟨_, ⟨k + 1, by omega, HU.out.symm⟩, hJx3⟩⟩
    · obtain rfl : k = zs.length := by omega
      have e1 : (zs.length : Int) - 1 - (zs.length : Int) = -1 := by omega
      rw [e1]
      gi_wp2
      go_end0
      exact ⟨⟨_, rfl⟩, .inl ⟨_, rfl, hJs⟩⟩

set_option maxRecDepth 100000 in
set_option maxHeartbeats 1000000 in
theorem back1_nil_in (F : Fence) (n : Nat) (h7 : F.fn 59) (hro : F.round = none) (l Bs : Nat) (a : Option Addr) (cap : Nat) (J : List (Int × (Int × List UInt8)) → World → Prop) (W : World) (hBs : W.cell? ⟨Bs, 0, none⟩ = some (.slice a 0 cap)) (h0 : J [] W) :
    CallsIn F n Try.prog 59 #[.func (.yield l) #[] #[], .pointer (some ⟨Bs, 0, none⟩)] W fun e W' => (∃ v, e = .returned v) ∧ J [] W' := by
  refine callsIn_of_wp Try.func59 rfl h7 ?_ hro
  simp only [Try.ntmps59, List.size_toArray, List.length_cons, List.length_nil, Nat.reduceAdd, Nat.reduceSub, Array.replicate_succ, Array.replicate_zero, List.push_toArray, List.append_toArray, List.nil_append, List.cons_append]
  gi_wp2
  gi_loopw [3] (fun i wr => i = .int .i64 (-1) ∧ J [] wr) (fun _ _ => 0)
  case atStart => exact ⟨rfl, h0⟩
  case round =>
    obtain ⟨rfl, hJs⟩ := hrel
    gi_wp2
    go_end0
    exact ⟨⟨_, rfl⟩, hJs⟩

theorem backward_any (a : Option Addr) (len cap : Nat) (w : World) :
    Calls Try.prog 48 #[.slice a len cap] w fun e w' => e = .returned (.func (.func 59) #[] #[.pointer (some ⟨w.heap.size, 0, none⟩)]) ∧ w' = w.alloc (.cells #[.slice a len cap] 92) := by
  go_enter Try.func48, Try.ntmps48
  go_wp2
  go_ret
  exact ⟨rfl, rfl⟩

/-- What slices.Backward hands back, at 'Kp := Below n₀'. -/
theorem back_stops (n : Nat) (hn : 1 ≤ n) (Bs n₀ : Nat) (a : Option Addr) (cap : Nat) (zs : List (Int × List UInt8)) (w : World) (hB : Bs < n₀) (hn₀ : n₀ ≤ w.heap.size)
    (hc : w.cell? ⟨Bs, 0, none⟩ = some (.slice a zs.length cap)) (hI : Rd w 2 (.slice a zs.length cap) zs.length (chgs zs)) (hlt : ∀ k ∈ vblocks (.slice a zs.length cap), k < n₀) :
    SeqStopsK Fence.wide n Try.prog 59 #[.pointer (some ⟨Bs, 0, none⟩)] (fun x : Int × (Int × List UInt8) => #[Value.int .i64 x.1, .agg #[.int .i64 x.2.1, str x.2.2]]) (Below n₀) (fun ys => ys = upto (backF zs) zs.length)
      (fun pre => ∃ k, k ≤ zs.length ∧ pre = upto (backF zs) k) zs.length w := fun l J Jx W hW _ _ hY h0 => by
  have hc' := (hW.cell (p := ⟨Bs, 0, none⟩) (by show Bs < w.heap.size; omega)).trans hc
  by_cases h0l : zs.length = 0
  · have hz : zs = [] := List.eq_nil_of_length_eq_zero h0l
    subst hz
    exact (back1_nil_in Fence.wide n trivial rfl l Bs a cap J W hc' h0).mono fun e W' ⟨he, hj⟩ => ⟨he, .inl ⟨_, rfl, hj⟩⟩
  · obtain ⟨b, off, rfl, hbw, hcs⟩ := hI.view (by omega)
    have hm : zs.length ≤ 9223372036854775807 := by have := hI.len; unfold maxLen at this; omega
    exact back1_in Fence.wide n trivial rfl hn l Bs n₀ b off cap zs hm (hlt b (by simp [vblocks])) hB J Jx hY W hc' (fun j u hu => (hW.cell (p := ⟨b, off + j, none⟩) hbw).trans (hcs j u hu)) h0

/-- What Read hands back. -/
def ReadPost (k : Int) (D : Dv) (w : World) (e : Ending) (w' : World) : Prop := e = .returned (.tuple #[str (readV k D), .int .i64 (readE k D)]) ∧ Ext [] w w'
theorem readPost (k : Int) (D : Dv) (w w' : World) {v : List UInt8} {n : Int} (hv : readV k D = v) (hn : readE k D = n) (hx : Ext [] w w') : ReadPost k D w (.returned (.tuple #[str v, .int .i64 n])) w' := by
  subst hv; subst hn; exact ⟨rfl, hx⟩

/-- What Read's walk asks of memory, in every world that has turned the results alone. -/
def ReadS (b n0 m1 m3 : Nat) (k : Int) (D : Dv) (W w' : World) : Prop :=
  Ext [n0 + 1, n0 + 2] W w' ∧ w'.cell? ⟨n0, 0, none⟩ = some (.int .i64 k) ∧ w'.cell? ⟨b, 0, none⟩ = some (.int .i64 D.size) ∧ w'.cell? ⟨b, 1, none⟩ = some (.map (some m1)) ∧ w'.cell? ⟨b, 3, none⟩ = some (.map (some m3)) ∧
    (Instr.lookup 84 (.map (some m3)) (.int .i64 k) false).run Try.prog w' = .ok (.bool (D.lost k)) w' ∧ (Instr.lookup 91 (.map (some m1)) (.int .i64 k) false).run Try.prog w' = .ok (str (D.safe k)) w'
theorem readS (b n0 m1 m3 m4 : Nat) (sv : Value) (k : Int) (D : Dv) (W : World) (hi : DevIn W b m1 m3 m4 sv D) (hq : Blk W n0 3 [.int .i64 k]) (hb : b < n0) (h1 : m1 < n0) (h3 : m3 < n0) :
    ∀ w', Ext [n0 + 1, n0 + 2] W w' → ReadS b n0 m1 m3 k D W w' := fun w' hx => by
  have nb : b ∉ [n0 + 1, n0 + 2] := by simp; omega
  have n1 : m1 ∉ [n0 + 1, n0 + 2] := by simp; omega
  have n3 : m3 ∉ [n0 + 1, n0 + 2] := by simp; omega
  refine ⟨hx, (hq.keep hx (by simp)).c 0, hx.cell (p := ⟨b, 0, none⟩) nb hi.c.1, hx.cell (p := ⟨b, 1, none⟩) nb hi.c.2.1, hx.cell (p := ⟨b, 3, none⟩) nb hi.c.2.2.2.1, ?_, ?_⟩
  · exact (hi.lost.keep hx n3).lookup Try.underlying84 Try.underlying3 zero_bool k
  · exact (hi.safe.keep hx n1).lookup Try.underlying91 Try.underlying3 zero_str k

set_option maxRecDepth 100000 in
set_option maxHeartbeats 1000000 in
theorem read_no (b : Nat) (F : List Nat) (D : Dv) (k : Int) (w : World) (h : DevAt w b F D) (hE : readE k D ≠ 0) :
    Calls Try.prog 37 #[.pointer (some ⟨b, 0, none⟩), .int .i64 k] w (ReadPost k D w) := by
  obtain ⟨m1, m3, m4, sv, hi, hb, h1, h3, h4, hs⟩ := id h
  have hbl := hi.blk.lt
  have hl1 := hi.safe.lt
  have hl3 := hi.lost.lt
  have HV : readV k D = [] := by simp [readV, hE]
  by_cases hd : D.down = true
  · have HP := fun w' hx => readPost k D w w' HV (n := 5) (by simp [readE, hd]) hx
    rw [show str [] = .string ⟨#[]⟩ from rfl] at HP
    clear HV hE
    go_enter Try.func37, Try.ntmps37
    go_wp2_with fail
    refine (down_any b F D _ ((((h.keep0 ((Ext.refl [] _).alloc _))).keep0 ((Ext.refl [] _).alloc _)).keep0 ((Ext.refl [] _).alloc _))).mono ?_
    rintro e w1 ⟨rfl, rfl⟩
    rw [hd]
    go_wp2
    exact bodyPost_ret (v := .tuple #[.string ⟨#[]⟩, .int .i64 5]) (by simp [results, Try.results37, go_sem]) rfl (HP _ (by (repeat' (first | assumption | exact Ext.refl _ _ | apply Ext.drew | (refine Ext.alloc ?_ _) | (refine Ext.setCell ?_ (by first | (right; simp; done) | (right; have := hx.size; simp at this ⊢; omega) | (left; simp; done)) _) | (refine Ext.then0 ?_ hx) | (refine Ext.trans ?_ hx (by simp))))))
  · have hd' : D.down = false := by simpa using hd
    have hW : DevIn (((w.alloc (.cells #[.int .i64 k] 3)).alloc (.cells #[.string ⟨#[]⟩] 9)).alloc (.cells #[.int .i64 0] 41)) b m1 m3 m4 sv D := ((hi.keep0 ((Ext.refl [] _).alloc _)).keep0 ((Ext.refl [] _).alloc _)).keep0 ((Ext.refl [] _).alloc _)
    have hS := readS b w.heap.size m1 m3 m4 sv k D _ hW ((((Blk.new w 3 #[.int .i64 k])).alloc _).alloc _) hbl hl1 hl3
    by_cases hr : k < 0 ∨ D.size ≤ k
    · have HP := fun w' hx => readPost k D w w' HV (n := 7) (by simp [readE, hd', hr]) hx
      rw [show str [] = .string ⟨#[]⟩ from rfl] at HP
      clear HV hE
      by_cases hk : k < 0
      · clear hr hW
        go_enter Try.func37, Try.ntmps37
        go_wp2_with fail
        refine (down_any b F D _ ((((h.keep0 ((Ext.refl [] _).alloc _))).keep0 ((Ext.refl [] _).alloc _)).keep0 ((Ext.refl [] _).alloc _))).mono ?_
        rintro e w1 ⟨rfl, rfl⟩
        rw [hd']
        go_wp2_with fail
        obtain ⟨W, hWW⟩ : ∃ W, W = ((w.alloc (.cells #[.int .i64 k] 3)).alloc (.cells #[.string ⟨#[]⟩] 9)).alloc (.cells #[.int .i64 0] 41) := ⟨_, rfl⟩
        have hsz : W.heap.size = w.heap.size + 3 := by rw [hWW]; simp
        have hxW : Ext [] w W := by rw [hWW]; exact (((Ext.refl [] w).alloc _).alloc _).alloc _
        have qs : Blk W (w.heap.size + 1) 9 [.string ⟨#[]⟩] := by rw [hWW]; exact (Blk.newg (by simp)).alloc _
        have qe : Blk W (w.heap.size + 1 + 1) 41 [.int .i64 0] := by rw [hWW]; exact Blk.newg (by simp)
        rw [← hWW] at hS ⊢
        clear hWW
        obtain ⟨-, s0, s1, s2, s3, -, -⟩ := hS W (Ext.refl _ _)
        have sl : ∀ n, _ := fun n => (hS (W.drewN n) ((Ext.refl _ _).drewN n)).2.2.2.2.2.1
        have sl2 : ∀ n, _ := fun n => (hS (W.drewN n) ((Ext.refl _ _).drewN n)).2.2.2.2.2.2
        have qs0 := qs.c 0
        have qe0 := qe.c 0
        have qsf := qs.f 0
        have qef := qe.f 0
        simp only [List.getElem?_cons_zero] at qs0 qe0
        go_quiet (fail)
        go_wp2
        exact bodyPost_ret (v := .tuple #[.string ⟨#[]⟩, .int .i64 7]) (by simp [results, Try.results37, go_sem, qs0, qe0]) rfl (HP _ ((((hxW.drewN _).setCell (.inr (by simp)) _).setCell (.inr (by show w.heap.size ≤ w.heap.size + 1 + 1; omega)) _)))
      · have hk2 : D.size ≤ k := by omega
        have e0 : decide (D.size ≤ k) = true := by simpa using hk2
        have e1 : decide (k < 0) = false := by simpa using hk
        clear hr hW
        go_enter Try.func37, Try.ntmps37
        go_wp2_with fail
        refine (down_any b F D _ ((((h.keep0 ((Ext.refl [] _).alloc _))).keep0 ((Ext.refl [] _).alloc _)).keep0 ((Ext.refl [] _).alloc _))).mono ?_
        rintro e w1 ⟨rfl, rfl⟩
        rw [hd']
        go_wp2_with fail
        obtain ⟨W, hWW⟩ : ∃ W, W = ((w.alloc (.cells #[.int .i64 k] 3)).alloc (.cells #[.string ⟨#[]⟩] 9)).alloc (.cells #[.int .i64 0] 41) := ⟨_, rfl⟩
        have hsz : W.heap.size = w.heap.size + 3 := by rw [hWW]; simp
        have hxW : Ext [] w W := by rw [hWW]; exact (((Ext.refl [] w).alloc _).alloc _).alloc _
        have qs : Blk W (w.heap.size + 1) 9 [.string ⟨#[]⟩] := by rw [hWW]; exact (Blk.newg (by simp)).alloc _
        have qe : Blk W (w.heap.size + 1 + 1) 41 [.int .i64 0] := by rw [hWW]; exact Blk.newg (by simp)
        rw [← hWW] at hS ⊢
        clear hWW
        obtain ⟨-, s0, s1, s2, s3, -, -⟩ := hS W (Ext.refl _ _)
        have sl : ∀ n, _ := fun n => (hS (W.drewN n) ((Ext.refl _ _).drewN n)).2.2.2.2.2.1
        have sl2 : ∀ n, _ := fun n => (hS (W.drewN n) ((Ext.refl _ _).drewN n)).2.2.2.2.2.2
        have qs0 := qs.c 0
        have qe0 := qe.c 0
        have qsf := qs.f 0
        have qef := qe.f 0
        simp only [List.getElem?_cons_zero] at qs0 qe0
        go_quiet (fail)
        go_wp2
        exact bodyPost_ret (v := .tuple #[.string ⟨#[]⟩, .int .i64 7]) (by simp [results, Try.results37, go_sem, qs0, qe0]) rfl (HP _ ((((hxW.drewN _).setCell (.inr (by simp)) _).setCell (.inr (by show w.heap.size ≤ w.heap.size + 1 + 1; omega)) _)))
    · have hk0 : ¬ k < 0 := fun h => hr (.inl h)
      have hk1 : ¬ D.size ≤ k := fun h => hr (.inr h)
      have hlo : D.lost k = true := by
        by_cases hl : D.lost k = true
        · exact hl
        · exact absurd (by simp [readE, hd', hr, hl]) hE
      have HP := fun w' hx => readPost k D w w' HV (n := 6) (by simp [readE, hd', hr, hlo]) hx
      rw [show str [] = .string ⟨#[]⟩ from rfl] at HP
      have e0 : decide (D.size ≤ k) = false := by simpa using hk1
      have e1 : decide (k < 0) = false := by simpa using hk0
      clear HV hE hr hW
      go_enter Try.func37, Try.ntmps37
      go_wp2_with fail
      refine (down_any b F D _ ((((h.keep0 ((Ext.refl [] _).alloc _))).keep0 ((Ext.refl [] _).alloc _)).keep0 ((Ext.refl [] _).alloc _))).mono ?_
      rintro e w1 ⟨rfl, rfl⟩
      rw [hd']
      go_wp2_with fail
      obtain ⟨W, hWW⟩ : ∃ W, W = ((w.alloc (.cells #[.int .i64 k] 3)).alloc (.cells #[.string ⟨#[]⟩] 9)).alloc (.cells #[.int .i64 0] 41) := ⟨_, rfl⟩
      have hsz : W.heap.size = w.heap.size + 3 := by rw [hWW]; simp
      have hxW : Ext [] w W := by rw [hWW]; exact (((Ext.refl [] w).alloc _).alloc _).alloc _
      have qs : Blk W (w.heap.size + 1) 9 [.string ⟨#[]⟩] := by rw [hWW]; exact (Blk.newg (by simp)).alloc _
      have qe : Blk W (w.heap.size + 1 + 1) 41 [.int .i64 0] := by rw [hWW]; exact Blk.newg (by simp)
      rw [← hWW] at hS ⊢
      clear hWW
      obtain ⟨-, s0, s1, s2, s3, -, -⟩ := hS W (Ext.refl _ _)
      have sl : ∀ n, _ := fun n => (hS (W.drewN n) ((Ext.refl _ _).drewN n)).2.2.2.2.2.1
      have sl2 : ∀ n, _ := fun n => (hS (W.drewN n) ((Ext.refl _ _).drewN n)).2.2.2.2.2.2
      have qs0 := qs.c 0
      have qe0 := qe.c 0
      have qsf := qs.f 0
      have qef := qe.f 0
      simp only [List.getElem?_cons_zero] at qs0 qe0
      rw [hlo] at sl
      go_quiet (fail)
      go_wp2_with fail
      go_quiet (fail)
      go_wp2
      exact bodyPost_ret (v := .tuple #[.string ⟨#[]⟩, .int .i64 6]) (by simp [results, Try.results37, go_sem, qs0, qe0]) rfl (HP _ ((((hxW.drewN _).setCell (.inr (by simp)) _).setCell (.inr (by show w.heap.size ≤ w.heap.size + 1 + 1; omega)) _)))

/-- Between two rounds; and behind a return out of one. -/
def RdI (k : Int) (W0 : World) (pre : List (Int × (Int × List UInt8))) (W' : World) : Prop := (∀ p ∈ pre, p.2.1 ≠ k) ∧ Below W0.heap.size W0 W'
def RdX (k : Int) (w : World) (c : Code) (pre : List (Int × (Int × List UInt8))) (W' : World) : Prop :=
  (c = .ret ∧ ∃ ini x, pre = ini ++ [x] ∧ (∀ p ∈ ini, p.2.1 ≠ k) ∧ x.2.1 = k ∧ Blk W' (w.heap.size + 1) 9 [str x.2.2] ∧ Blk W' (w.heap.size + 1 + 1) 41 [.int .i64 0]) ∧ Below w.heap.size w W'
theorem below_of {w W0 W' : World} {n : Nat} (h0 : Ext [] w W0) (h : Below n W0 W') (hn : W0.heap.size ≤ n) : Below w.heap.size w W' :=
  (h0.below (by simp)).trans (h.mono (Nat.le_trans h0.size hn))

set_option maxRecDepth 100000 in
set_option maxHeartbeats 2000000 in
theorem read_yes (b : Nat) (F : List Nat) (D : Dv) (k : Int) (w : World) (h : DevAt w b F D) (hE : readE k D = 0) :
    Calls Try.prog 37 #[.pointer (some ⟨b, 0, none⟩), .int .i64 k] w (ReadPost k D w) := by
  obtain ⟨m1, m3, m4, sv, hi, hb, h1, h3, h4, hs⟩ := id h
  obtain ⟨a, cap, rfl⟩ := hi.since.rd.isSlice
  have hbl := hi.blk.lt
  have hl1 := hi.safe.lt
  have hl3 := hi.lost.lt
  have hsl := hi.slt
  have hd' : D.down = false := by
    cases hd : D.down
    · rfl
    · rw [readE, if_pos hd] at hE; cases hE
  have hr : ¬ (k < 0 ∨ D.size ≤ k) := by
    intro hr; rw [readE, if_neg (by simp [hd']), if_pos hr] at hE; cases hE
  have hlo : D.lost k = false := by
    cases hl : D.lost k
    · rfl
    · rw [readE, if_neg (by simp [hd']), if_neg hr, if_pos hl] at hE; cases hE
  have HP : ∀ w' v, contD D k = v → Ext [] w w' → ReadPost k D w (.returned (.tuple #[str v, .int .i64 0])) w' := fun w' v hv hx => readPost k D w w' (by rw [readV, if_pos hE, hv]) hE hx
  have hW : DevIn (((w.alloc (.cells #[.int .i64 k] 3)).alloc (.cells #[.string ⟨#[]⟩] 9)).alloc (.cells #[.int .i64 0] 41)) b m1 m3 m4 _ D := ((hi.keep0 ((Ext.refl [] _).alloc _)).keep0 ((Ext.refl [] _).alloc _)).keep0 ((Ext.refl [] _).alloc _)
  have hS := readS b w.heap.size m1 m3 m4 _ k D _ hW ((((Blk.new w 3 #[.int .i64 k])).alloc _).alloc _) hbl hl1 hl3
  have e0 : decide (D.size ≤ k) = false := by simp; omega
  have e1 : decide (k < 0) = false := by simp; omega
  have qk := ((Blk.new w 3 #[.int .i64 k]).alloc (.cells #[.string ⟨#[]⟩] 9)).alloc (.cells #[.int .i64 0] 41)
  clear hE hr
  refine callsIn_wide.1 (callsIn_of_wp_marks (n := 8) Try.func37 rfl trivial ?_ rfl)
  simp only [Try.ntmps37, List.size_toArray, List.length_cons, List.length_nil, Nat.reduceAdd, Nat.reduceSub, Array.replicate_succ, Array.replicate_zero, List.push_toArray, List.append_toArray, List.nil_append, List.cons_append]
  refine wpIn_wide.2 ?_
  go_wp2_with fail
  refine (down_any b F D _ ((((h.keep0 ((Ext.refl [] _).alloc _))).keep0 ((Ext.refl [] _).alloc _)).keep0 ((Ext.refl [] _).alloc _))).mono ?_
  rintro e w1 ⟨rfl, rfl⟩
  rw [hd']
  go_wp2_with fail
  obtain ⟨W, hWW⟩ : ∃ W, W = ((w.alloc (.cells #[.int .i64 k] 3)).alloc (.cells #[.string ⟨#[]⟩] 9)).alloc (.cells #[.int .i64 0] 41) := ⟨_, rfl⟩
  have hsz : W.heap.size = w.heap.size + 3 := by rw [hWW]; simp
  have hxW : Ext [] w W := by rw [hWW]; exact (((Ext.refl [] w).alloc _).alloc _).alloc _
  have qs : Blk W (w.heap.size + 1) 9 [.string ⟨#[]⟩] := by rw [hWW]; exact (Blk.newg (by simp)).alloc _
  have qe : Blk W (w.heap.size + 1 + 1) 41 [.int .i64 0] := by rw [hWW]; exact Blk.newg (by simp)
  rw [← hWW] at hS hW qk ⊢
  clear hWW
  obtain ⟨-, s0, s1, s2, s3, -, -⟩ := hS W (Ext.refl _ _)
  have sl : ∀ n, _ := fun n => (hS (W.drewN n) ((Ext.refl _ _).drewN n)).2.2.2.2.2.1
  have sl2 : ∀ n, _ := fun n => (hS (W.drewN n) ((Ext.refl _ _).drewN n)).2.2.2.2.2.2
  have qs0 := qs.c 0
  have qe0 := qe.c 0
  have qsf := qs.f 0
  have qef := qe.f 0
  simp only [List.getElem?_cons_zero] at qs0 qe0
  have s4 := hW.c.2.2.1
  rw [hlo] at sl
  go_quiet (fail)
  rename Nat => nq1
  go_wp2_with fail
  go_quiet (fail)
  go_wp2_with fail
  refine (backward_any _ _ _ _).mono ?_
  rintro e w2 ⟨rfl, rfl⟩
  go_wp2_with fail
  obtain ⟨W0, hW0⟩ : ∃ W0, W0 = (W.drewN (nq1 + nq)).alloc (.cells #[.slice a D.since.length cap] 92) := ⟨_, rfl⟩
  have hsz0 : W0.heap.size = w.heap.size + 4 := by rw [hW0]; simp [hsz]
  have hxD : Ext [] W (W.drewN (nq1 + nq)) := (Ext.refl _ _).drewN _
  have hx0 : Ext [] W W0 := by rw [hW0]; exact hxD.alloc _
  have qb : Blk W0 (w.heap.size + 3) 92 [.slice a D.since.length cap] := by rw [hW0]; exact Blk.newg (by simp [hsz])
  have hxw0 : Ext [] w W0 := hxW.then0 hx0
  have hi0 := hW.keep0 hx0
  have qk0 := qk.keep hx0 (by simp)
  have qs1 := qs.keep hx0 (by simp)
  have qe1 := qe.keep hx0 (by simp)
  rw [← hW0]
  clear hW0 hxD hx0 hxW hS hW s0 s1 s2 s3 s4 sl sl2 qs0 qe0 qsf qef qs qe qk
  refine wpIn_wide.1 (wpIn_rangeFunc_ownH (F := Fence.wide) (n := 8) rfl (by omega) (gf := 59) (lb := #[.pointer (some ⟨w.heap.size + 3, 0, none⟩)]) rfl trivial (enters_of Try.func59 (by kernel_rfl) rfl)
    (back_stops 7 (by omega) (w.heap.size + 3) W0.heap.size a cap D.since W0 (by omega) (Nat.le_refl _) (qb.c 0) hi0.since.rd (fun x hx => by have := hsl x hx; omega)) belowK_t (belowK_b (Nat.le_refl _)) (Below.refl _ _) (fun _ => rfl)
    (RdI k W0) (RdX k w)
    (fun s X Y row hs hg hr => ⟨hs.1, hs.2.grown hg hs.2.size (fun r e => (hr r e).1)⟩)
    (fun c s X Y row hs hg hr => by
      obtain ⟨⟨hc, ini, x, e1, e2, e3, e4, e5⟩, hB⟩ := hs
      exact ⟨⟨hc, ini, x, e1, e2, e3, e4.turn hg (fun r e => (hr r e).2), e5.turn hg (fun r e => (hr r e).2)⟩, hB.grown hg hB.size (fun r e => by have := (hr r e).1; omega)⟩)
    ⟨by simp, Below.refl _ _⟩
    (fun x a' W' => ∃ Bx, W0.heap.size ≤ Bx ∧ Blk W' Bx 98 [.int .i64 x.2.1, str x.2.2] ∧ a' = { tmps := #[.pointer (some ⟨b, 0, none⟩), .int .i64 k, undef, .pointer (some ⟨w.heap.size, 0, none⟩), .pointer (some ⟨w.heap.size + 1, 0, none⟩), .pointer (some ⟨w.heap.size + 1 + 1, 0, none⟩), undef, .pointer (some ⟨Bx, 0, none⟩), .bool false, .pointer (some ⟨b, 0, none⟩), .bool false, .bool false, .int .i64 k, .bool false, .bool false, .int .i64 k, .pointer (some ⟨b, 0, none⟩), .pointer (some ⟨b, 0, none⟩), .pointer (some ⟨b, 0, none⟩), .int .i64 D.size, .bool false, .bool false, .bool false, .pointer (some ⟨b, 0, none⟩), .pointer (some ⟨b, 0, none⟩), .pointer (some ⟨b, 3, none⟩), .map (some m3), .int .i64 k, .bool false, .pointer (some ⟨b, 0, none⟩), .pointer (some ⟨b, 0, none⟩), .pointer (some ⟨b, 2, none⟩), .slice a D.since.length cap, .func (.func 59) #[] #[.pointer (some ⟨w.heap.size + 3, 0, none⟩)], .int .i64 x.1, .agg #[.int .i64 x.2.1, str x.2.2], undef, undef, undef, undef, undef, undef, undef, undef, undef, undef, undef, undef], defers := [] })
    (fun x a' s X Y row hs hg hr => by
      obtain ⟨Bx, h1, h2, h3⟩ := hs
      exact ⟨Bx, h1, h2.turn hg (fun r e => (hr r e).2), h3⟩)
    ?assign ?body ?done ?stop)
  case assign =>
    rintro l pre x W' K ⟨hi, hB⟩ hK
    gi_wp2
    exact hK _ _ ((KeepsOthers.alloc _ _).from _) ((Below.refl _ W').alloc hB.size _) ⟨hi, hB.alloc hB.size _⟩ ⟨W'.heap.size, hB.size, Blk.new W' _ #[.int .i64 x.2.1, str x.2.2], rfl⟩
  case body =>
    rintro l pre ⟨xi, xk, xs⟩ a' W' hl ⟨r, hr⟩ ⟨hi, hB⟩ ⟨Bx, hBx, hbx, rfl⟩ hlt
    have k0 := (qk0.below hB (by omega)).c 0
    have x0 := hbx.c 0
    have x1 := hbx.c 1
    have qs2 := qs1.below hB (by omega)
    have qe2 := qe1.below hB (by omega)
    have y0 := qs2.c 0
    have y1 := qe2.c 0
    have y2 := qs2.f 0
    have y3 := qe2.f 0
    simp only [List.getElem?_cons_zero, List.getElem?_cons_succ] at x0 x1 y0 y1
    by_cases hk : xk = k
    · subst hk
      gi_wp2
      refine ⟨((KeepsOthers.setCell _ _ _).trans (KeepsOthers.setCell _ _ _)).from _, ⟨rfl, pre, (xi, xk, xs), rfl, hi, rfl, (qs2.set 0 _).other _ _ (by simp), (qe2.other _ _ (by simp)).set 0 _⟩, ?_⟩
      exact ((below_of hxw0 hB (Nat.le_refl _)).setCell (p := ⟨w.heap.size + 1, 0, none⟩) (by simp) _).setCell (p := ⟨w.heap.size + 1 + 1, 0, none⟩) (by show _ ≤ w.heap.size + 1 + 1; omega) _
    · have ek : (xk == k) = false := by simp [hk]
      gi_wp2
      exact ⟨KeepsFrom.refl _ _, Below.refl _ _, fun p hp => (List.mem_append.1 hp).elim (hi p) (fun e => by simp at e; subst e; exact hk), hB⟩
  case done =>
    rintro D' ys W' hD rfl ⟨hi, hB⟩ hK
    have hB' := below_of hxw0 hB (Nat.le_refl _)
    have hxB : Ext [] w W' := Ext.ofBelow hB'
    have hv : contD D k = D.safe k := by rw [contD, back_none hi]; rfl
    have qs2 := qs1.below hB (by omega)
    have qe2 := qe1.below hB (by omega)
    have hS := readS b w.heap.size m1 m3 m4 _ k D W' (hi0.keep0 (Ext.ofBelow hB)) (qk0.below hB (by omega)) hbl hl1 hl3
    have y0 := qs2.c 0
    have y1 := qe2.c 0
    have y2 := qs2.f 0
    have y3 := qe2.f 0
    simp only [List.getElem?_cons_zero] at y0 y1
    have hE : Ext [w.heap.size + 1, w.heap.size + 2] W' W' := Ext.refl _ _
    have hP : ∀ w', Ext [w.heap.size + 1, w.heap.size + 2] W' w' → (Ext [w.heap.size + 1, w.heap.size + 2] W' w' ∧ w'.cell? ⟨w.heap.size, 0, none⟩ = some (.int .i64 k) ∧ w'.cell? ⟨b, 0, none⟩ = some (.int .i64 D.size) ∧ w'.cell? ⟨b, 1, none⟩ = some (.map (some m1)) ∧ w'.cell? ⟨b, 3, none⟩ = some (.map (some m3)) ∧
    (Instr.lookup 84 (.map (some m3)) (.int .i64 k) false).run Try.prog w' = .ok (.bool (D.lost k)) w' ∧ (Instr.lookup 91 (.map (some m1)) (.int .i64 k) false).run Try.prog w' = .ok (str (D.safe k)) w') := hS
    have HV : Hid (contD D k = D.safe k) := hv
    clear hi hv hS
    go_wp2_with fail
    go_region_held3 (fun w' => (Ext [w.heap.size + 1, w.heap.size + 2] W' w' ∧ w'.cell? ⟨w.heap.size, 0, none⟩ = some (.int .i64 k) ∧ w'.cell? ⟨b, 0, none⟩ = some (.int .i64 D.size) ∧ w'.cell? ⟨b, 1, none⟩ = some (.map (some m1)) ∧ w'.cell? ⟨b, 3, none⟩ = some (.map (some m3)) ∧
    (Instr.lookup 84 (.map (some m3)) (.int .i64 k) false).run Try.prog w' = .ok (.bool (D.lost k)) w' ∧ (Instr.lookup 91 (.map (some m1)) (.int .i64 k) false).run Try.prog w' = .ok (str (D.safe k)) w')) (first | exact hP _ (by assumption) | (go_split_ands; apply hP; (repeat' (first | assumption | exact Ext.refl _ _ | apply Ext.drew | (refine Ext.alloc ?_ _) | (refine Ext.setCell ?_ (by first | (right; simp; done) | (right; have := hx.size; simp at this ⊢; omega) | (left; simp; done)) _) | (refine Ext.then0 ?_ hx) | (refine Ext.trans ?_ hx (by simp)))); done)) (fail)
    clear hP
    go_wp2
    have hne1 : w.heap.size + 1 ≠ D' := by omega
    have hne2 : w.heap.size + 1 + 1 ≠ D' := by omega
    have hn12 : w.heap.size + 1 ≠ w.heap.size + 1 + 1 := by omega
    have hx3 : Ext [w.heap.size + 1, w.heap.size + 2] W' ((W'.setCell ⟨w.heap.size + 1, 0, none⟩ (str (D.safe k))).setCell ⟨w.heap.size + 1 + 1, 0, none⟩ (.int .i64 0)).drew := (((Ext.refl _ W').setCell (.inl (by simp)) _).setCell (.inl (by simp)) _).drew
    have hK3 := hx3.heap (show D' ∉ [w.heap.size + 1, w.heap.size + 2] by simp; omega) hK
    refine ⟨by simp, .inl ⟨_, _, rfl, run_takeDeferred hK3, ?_⟩⟩
    have z4 := ((qs2.set 0 (str (D.safe k))).other ⟨w.heap.size + 1 + 1, 0, none⟩ (.int .i64 0) hn12).keep ((Ext.refl [] _).drew) (by simp)
    have z5 := ((qe2.other ⟨w.heap.size + 1, 0, none⟩ (str (D.safe k)) hn12.symm).set 0 (.int .i64 0)).keep ((Ext.refl [] _).drew) (by simp)
    have z4' : Blk ((((W'.setCell ⟨w.heap.size + 1, 0, none⟩ (str (D.safe k))).setCell ⟨w.heap.size + 1 + 1, 0, none⟩ (.int .i64 0)).drew).putObj D' (.deferred none)) (w.heap.size + 1) 9 [str (D.safe k)] := (World.putObj_heap_other hne1).trans z4
    have z5' : Blk ((((W'.setCell ⟨w.heap.size + 1, 0, none⟩ (str (D.safe k))).setCell ⟨w.heap.size + 1 + 1, 0, none⟩ (.int .i64 0)).drew).putObj D' (.deferred none)) (w.heap.size + 1 + 1) 41 [.int .i64 0] := (World.putObj_heap_other hne2).trans z5
    have c4 := z4'.c 0
    have c5 := z5'.c 0
    simp only [List.getElem?_cons_zero] at c4 c5
    have hB3 : Below w.heap.size w ((W'.setCell ⟨w.heap.size + 1, 0, none⟩ (str (D.safe k))).setCell ⟨w.heap.size + 1 + 1, 0, none⟩ (.int .i64 0)).drew := ((hB'.setCell (p := ⟨w.heap.size + 1, 0, none⟩) (by simp) _).setCell (p := ⟨w.heap.size + 1 + 1, 0, none⟩) (by show w.heap.size ≤ w.heap.size + 1 + 1; omega) _).drew
    refine ⟨.tuple #[str (D.safe k), .int .i64 0], ?_, HP _ _ HV.out (Ext.ofBelow (hB3.trans (belowK_b (w := w) (Nat.le_refl _) _ D' _ _ (by omega) hK3 rfl rfl)))⟩
    simp [results, Try.f37, go_sem, c4, c5]
  case stop =>
    rintro D' c pre W' hD ⟨j, hj, rfl⟩ ⟨⟨rfl, ini, x, e1, e2, e3, e4, e5⟩, hB⟩ hK
    obtain ⟨j', rfl⟩ : ∃ j', j = j' + 1 := by
      cases j with
      | zero => simp [upto] at e1
      | succ j' => exact ⟨j', rfl⟩
    rw [upto_succ] at e1
    obtain ⟨rfl, e6⟩ := List.append_inj' e1 rfl
    obtain rfl : backF D.since j' = x := by simpa using e6
    have hv : contD D k = (backF D.since j').2.2 := by rw [contD, back_some (by omega) e2 e3]; rfl
    gi_wp2
    refine ⟨by simp, .inl ⟨_, _, rfl, run_takeDeferred hK, ?_⟩⟩
    have hne1 : w.heap.size + 1 ≠ D' := by omega
    have hne2 : w.heap.size + 1 + 1 ≠ D' := by omega
    have z4 : Blk (W'.putObj D' (.deferred none)) (w.heap.size + 1) 9 [str (backF D.since j').2.2] := (World.putObj_heap_other hne1).trans e4
    have z5 : Blk (W'.putObj D' (.deferred none)) (w.heap.size + 1 + 1) 41 [.int .i64 0] := (World.putObj_heap_other hne2).trans e5
    have c4 := z4.c 0
    have c5 := z5.c 0
    simp only [List.getElem?_cons_zero] at c4 c5
    refine ⟨.tuple #[str (backF D.since j').2.2, .int .i64 0], ?_, HP _ _ hv (Ext.ofBelow (hB.trans (belowK_b (w := w) (Nat.le_refl _) W' D' _ _ (by omega) hK rfl rfl)))⟩
    simp [results, Try.f37, go_sem, c4, c5]

theorem dread_any (b : Nat) (F : List Nat) (D : Dv) (k : Int) (w : World) (h : DevAt w b F D) :
    Calls Try.prog 37 #[.pointer (some ⟨b, 0, none⟩), .int .i64 k] w (ReadPost k D w) := by
  by_cases hE : readE k D = 0
  · exact read_yes b F D k w h hE
  · exact read_no b F D k w h hE
end Go.Proofs.Ytmjgbkepngeckaa
