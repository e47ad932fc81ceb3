/- Package chunk: Cut, a range over slices.Chunk. -/
import Derived.Test.YtlnfigbcdmfmdaaChka
import Derived.RangeFuncNested
import Derived.RangeFuncBound
import Derived.RangeFuncCalls
import Derived.RangeFuncLeaves
import Derived.Shelf.Abstract
import Derived.Shelf.RegionOpen
import Derived.OwnWalkIn
import Derived.TacticsInMore
import Derived.LoopNIn
import Derived.LoopIn
namespace Go.Proofs.Ytlnfigbcdmfmdaa
open Go.RowKit Go.Shelf
set_option linter.unusedVariables false
set_option linter.unusedSimpArgs false
attribute [local go_sem] Oper.semAt_some

/-- Below n all is as it was, but block p. -/
structure BelowX (p n : Nat) (A B : World) : Prop where
  os : B.os = A.os
  tape : B.tape = A.tape
  output : B.output = A.output
  size : A.heap.size ≤ B.heap.size
  block : ∀ k, k < n → k ≠ p → B.heap[k]? = A.heap[k]?
theorem BelowX.refl (p n : Nat) (A : World) : BelowX p n A A := ⟨rfl, rfl, rfl, Nat.le_refl _, fun _ _ _ => rfl⟩
theorem BelowX.trans {p n : Nat} {A B C : World} (h : BelowX p n A B) (k : BelowX p n B C) : BelowX p n A C :=
  ⟨k.os.trans h.os, k.tape.trans h.tape, k.output.trans h.output, Nat.le_trans h.size k.size, fun i hi hp => (k.block i hi hp).trans (h.block i hi hp)⟩
theorem BelowX.put {p n : Nat} {w : World} (hn : n ≤ w.heap.size) (W : World) (l : Nat) (o o' : Obj) (hl : w.heap.size ≤ l) (h : W.heap[l]? = some o) (h1 : o.isCells = false) (h2 : o.isWalk = false) : BelowX p n W (W.putObj l o') := by
  have hb := belowK_b hn W l o o' hl h h1 h2
  exact ⟨hb.os, hb.tape, hb.output, hb.size, fun k hk _ => hb.block k hk⟩
theorem BelowX.of {p n : Nat} {A B : World} {F : List Nat} (h : Ext F A B) (hn : n ≤ A.heap.size) (hF : ∀ z ∈ F, z = p ∨ n ≤ z) : BelowX p n A B :=
  ⟨h.os, h.tape, h.output, h.size, fun k hk hp => h.block k (by omega) (fun hm => by rcases hF k hm with h | h <;> omega)⟩
theorem BelowX.ext {p n : Nat} {A B : World} (h : BelowX p n A B) (hn : n = A.heap.size) : Ext [p] A B :=
  ⟨h.os, h.tape, h.output, h.size, fun k hk hp => h.block k (by omega) (by simpa using hp)⟩
theorem BelowX.blk {p n g : Nat} {A B : World} {t : TypeId} {cs : List Value} (h : BelowX p n A B) (hb : Blk A g t cs) (h1 : g < n) (h2 : g ≠ p) : Blk B g t cs := (h.block g h1 h2).trans hb

/-- The j-th piece of a row of len bytes. -/
def pieceV (g len j : Nat) : Value := .slice (some ⟨g, 400 * j, none⟩) (min 400 (len - 400 * j)) (min 400 (len - 400 * j))

set_option maxRecDepth 100000 in
set_option maxHeartbeats 2000000 in
/-- slices.Chunk's closure, for every loop body that keeps its boxes. -/
theorem chunk1_in (n : Nat) (hn : 1 ≤ n) (l Bs Bn p n₀ g len cap : Nat) (hlen : len ≤ cap) (hl9 : len ≤ 1000000000000) (hcap : cap ≤ 9223372036854775807) (h1 : Bs < n₀) (h1' : Bs ≠ p) (h2 : Bn < n₀) (h2' : Bn ≠ p) (J Jx : List Nat → World → Prop) (hJd : ∀ pre W m, J pre W → J pre (W.drewN m))
    (hY : ∀ pre x W, J pre W → pre.length < (len + 399) / 400 → YieldAt Fence.wide (n - 1) Try.prog l #[pieceV g len x] W fun e W' =>
      (e = .returned (.bool true) ∧ J (pre ++ [x]) W' ∧ BelowX p n₀ W W') ∨ (e = .returned (.bool false) ∧ Jx (pre ++ [x]) W'))
    (W : World) (hn₀ : n₀ ≤ W.heap.size) (hBs : Blk W Bs 60 [.slice (some ⟨g, 0, none⟩) len cap]) (hBn : Blk W Bn 3 [.int .i64 400]) (h0 : J [] W) :
    CallsIn Fence.wide n Try.prog 59 #[.func (.yield l) #[] #[], .pointer (some ⟨Bs, 0, none⟩), .pointer (some ⟨Bn, 0, none⟩)] W fun e W' => (∃ v, e = .returned v) ∧
      ((∃ ys, ys = List.range ((len + 399) / 400) ∧ J ys W') ∨ (∃ pre, (∃ k, k ≤ (len + 399) / 400 ∧ pre = List.range k) ∧ Jx pre W')) := by
  refine callsIn_of_wp Try.func59 rfl trivial ?_ rfl
  simp only [Try.ntmps59, List.size_toArray, List.length_cons, List.length_nil, Nat.reduceAdd, Nat.reduceSub, Array.replicate_succ, Array.replicate_zero, List.push_toArray, List.append_toArray, List.nil_append, List.cons_append]
  gi_wp2
  gi_loopw [4] (fun i wr => ∃ k I : Nat, Hid (k ≤ (len + 399) / 400 ∧ I = 400 * k) ∧ i = .int .i64 (I : Int) ∧ J (List.range k) wr ∧ BelowX p n₀ W wr)
    (fun i _ => (len + 400 - intOf i).toNat)
  case atStart => exact ⟨0, 0, ⟨Nat.zero_le _, rfl⟩, rfl, h0, BelowX.refl _ _ _⟩
  case round =>
    obtain ⟨k, I, hk, rfl, hJs, hnx⟩ := hrel
    have qs := hnx.blk hBs h1 h1'
    have qn := hnx.blk hBn h2 h2'
    have c0 := fun j => Blk.c (qs.keep ((Ext.refl [] wr).drewN j) (by simp)) 0
    have c1 := fun j => Blk.c (qn.keep ((Ext.refl [] wr).drewN j) (by simp)) 0
    have c0' := Blk.c qs 0
    have c1' := Blk.c qn 0
    simp only [List.getElem?_cons_zero] at c0 c1 c0' c1'
    by_cases hlt : I < len
    · have hI1 : I ≤ len := by omega
      have hI2 : (len : Int) ≤ cap := by omega
      have hI3 : (cap : Int) ≤ 9223372036854775807 := by omega
      have hI4 : (len : Int) ≤ 1000000000000 := by omega
      have hJd' := fun m => hJd _ _ m hJs
      have HX := fun m => Hid.of (hnx.trans (BelowX.of (p := p) (n := n₀) ((Ext.refl [] wr).drewN m) (by have := hnx.size; omega) (by simp)))
      obtain ⟨M, hM⟩ : ∃ M : Nat, min 400 (len - I) = M := ⟨_, rfl⟩
      have hif : (if ((len - I : Nat) : Int) < 400 then ((len - I : Nat) : Int) else 400) = (M : Int) := by split <;> omega
      have hM2 : M ≤ 400 ∧ 1 ≤ M ∧ I + M ≤ len := by omega
      have HV : Hid (pieceV g len k = .slice (some ⟨g, I, none⟩) M M) := Hid.of (by unfold pieceV; rw [← hk.out.2, hM])
      have hJl : (List.range k).length < (len + 399) / 400 := by rw [List.length_range]; have := hk.out; omega
      have HK1 : Hid (k + 1 ≤ (len + 399) / 400 ∧ I + 400 = 400 * (k + 1)) := Hid.of (by have := hk.out; omega)
      gi_wp2
      refine wpIn_wide.2 ?_
      go_quiet (fail)
      try rw [hif]
      obtain ⟨fn, tmps, assign, body, hy, hR⟩ := hY _ k (wr.drewN nq) (hJd' nq) hJl
      rw [HV.out] at hy
      clear hif hM HV
      obtain ⟨hM3, hM4, hM5⟩ := hM2
      have HRG : Hid (List.range (k + 1) = List.range k ++ [k]) := Hid.of List.range_succ
      have HX' := HX nq
      clear HX hnx qs qn c0' c1' hJs hJd'
      have c0' := c0 nq
      have c1' := c1 nq
      have e1 : ((I : Int) + (M : Int)).toNat = I + M := by omega
      have e2 : I + M - I = M := by omega
      clear c0 c1
      gi_wp2
      refine hR.mono ?_
      rintro e W3 (⟨rfl, hJ3, hk3⟩ | ⟨rfl, hJx3⟩)
      · have qn3 := ((HX'.out.trans hk3).blk hBn h2 h2')
        have d1 := Blk.c qn3 0
        simp only [List.getElem?_cons_zero] at d1
        have HX3 := Hid.of (HX'.out.trans hk3)
        clear hR hy c0' c1'
        gi_wp2
        go_roundw
        case rel => exact ⟨k + 1, I + 400, HK1, by congr 1, by rw [HRG.out]; exact hJ3, HX3.out⟩
        case measure => simp [intOf]; omega
      · gi_wp2
        refine bodyPost_ret (results_none rfl _ _ _) rfl ?_
        exact ⟨⟨_, rfl⟩, .inr ⟨_, ⟨k + 1, HK1.out.1, HRG.out.symm⟩, hJx3⟩⟩
    · have HK : Hid (k = (len + 399) / 400) := Hid.of (by have := hk.out; omega)
      clear c0 c1
      gi_wp2
      go_end0
      exact ⟨⟨_, rfl⟩, .inl ⟨_, rfl, by rw [← HK.out]; exact hJs⟩⟩
end Go.Proofs.Ytlnfigbcdmfmdaa
