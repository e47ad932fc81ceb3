/- PlogRings: the walk. (Printed by wip/gen_rings.py.) -/
import Derived.Test.YtmjgbkepngeckaaRingW
namespace Go.Proofs.Ytmjgbkepngeckaa
open Go.RowKit
set_option linter.unusedVariables false
set_option linter.unusedSimpArgs false
attribute [local go_sem] i64_and7 i64_and63

theorem Kept.from {O : List Nat} {w w' w'' : World} (h : Kept O w' w'') (hx : Ext [] w w') : Kept O w w'' := (Kept.of hx).trans h
def RingMid (w0 w : World) (wq b q : Nat) (first : Int) (all : List Ent) (E : Nat) : Prop := ∃ a cap, RSt w0 w wq b q first (.slice none 0 0) all [] a cap
def DropMid (w0 wr w : World) (wq b q : Nat) (first first2 : Int) (va : Value) (all : List Ent) (O : List Nat) : Prop :=
  Kept (wq :: O) wr w ∧ Blk w wq 35 [.pointer (some ⟨b, 0, none⟩), .pointer (some ⟨q, 0, none⟩), .int .i64 first, va, .slice none 0 0] ∧
    ∀ w'' va' vm', Ext [wq] w w'' → Blk w'' wq 35 [.pointer (some ⟨b, 0, none⟩), .pointer (some ⟨q, 0, none⟩), .int .i64 first2, va', vm'] → St w0 w'' wq b q first2 va' vm' (all.drop 1) O ∧ Kept O w w''
def OpenMid (w0 wr w : World) (wq b q q' : Nat) (first : Int) (va : Value) (all : List Ent) (O : List Nat) : Prop :=
  Kept (wq :: O) wr w ∧ Blk w wq 35 [.pointer (some ⟨b, 0, none⟩), .pointer (some ⟨q, 0, none⟩), .int .i64 first, va, .slice none 0 0] ∧
    ∀ w'' va' vm', Ext [wq] w w'' → Blk w'' wq 35 [.pointer (some ⟨b, 0, none⟩), .pointer (some ⟨q', 0, none⟩), .int .i64 first, va', vm'] → St w0 w'' wq b q' first va' vm' all O ∧ Kept O w w''
def lenAt3 (w : World) (wq : Nat) : Nat := match w.cell? ⟨wq, 3, none⟩ with
  | some (.slice _ n _) => n
  | _ => 0
theorem lenAt3_of {w : World} {wq n c : Nat} {a : Option Addr} (h : w.cell? ⟨wq, 3, none⟩ = some (.slice a n c)) : lenAt3 w wq = n := by unfold lenAt3; rw [h]
theorem cells_drop1 (all : List Ent) : (all.flatMap Ent.cells).drop (1 * 3) = (all.drop 1).flatMap Ent.cells := by
  cases all with
  | nil => rfl
  | cons e l => rfl
theorem DropMid.done {w0 wr wn : World} {wq b q g off' n' cap' : Nat} {first first2 : Int} {va : Value} {all : List Ent} (hD : DropMid w0 wr wn wq b q first first2 va all [g]) (hn : (all.drop 1).length = n') (hR : Rd wn 3 (.slice (some ⟨g, off', none⟩) n' cap') n' ((all.drop 1).flatMap Ent.cells)) (hg : g ≠ wq) :
    RSt w0 ((wn.setCell ⟨wq, 2, none⟩ (.int .i64 first2)).setCell ⟨wq, 3, none⟩ (.slice (some ⟨g, off', none⟩) n' cap')) wq b q first2 (.slice none 0 0) (all.drop 1) [] (some ⟨g, off', none⟩) cap' ∧ lenAt3 ((wn.setCell ⟨wq, 2, none⟩ (.int .i64 first2)).setCell ⟨wq, 3, none⟩ (.slice (some ⟨g, off', none⟩) n' cap')) wq = n' := by
  subst hn
  have hx : Ext [wq] wn ((wn.setCell ⟨wq, 2, none⟩ (.int .i64 first2)).setCell ⟨wq, 3, none⟩ (.slice (some ⟨g, off', none⟩) (all.drop 1).length cap')) := ((Ext.refl [wq] wn).setCell (.inl (by simp)) _).setCell (.inl (by simp)) _
  have hb := Blk.set (Blk.set hD.2.1 2 (.int .i64 first2)) 3 (.slice (some ⟨g, off', none⟩) (all.drop 1).length cap')
  have h := hD.2.2 _ _ _ hx hb
  exact ⟨⟨h.1.sub (by simp [vblocks]), hR.keep hx (by simpa [vblocks] using hg)⟩, lenAt3_of (Blk.c hb 3)⟩
def rg12Φ (w12 : World) (wq q : Nat) (xi xt : Int) (c : UInt8) (n : Nat) (y : Value) (w : World) : Prop :=
  match n with
  | 0 => y = .pointer (some ⟨wq, 0, none⟩)
  | 1 => y = .pointer (some ⟨wq, 0, none⟩)
  | 2 => y = .pointer (some ⟨wq, 1, none⟩)
  | 3 => y = .pointer (some ⟨q, 0, none⟩)
  | 4 => y = .agg #[.int .i64 xi, .int .i64 xt, .string ⟨#[c]⟩]
  | 5 => ∃ z, y = .slice (some ⟨z, 0, none⟩) 1 1 ∧ w12.heap.size ≤ z ∧ Blk w z 37 [.int .i64 xi, .int .i64 xt, .string ⟨#[c]⟩]
  | _ => True
def rg12ΦT (w12 : World) (wq q : Nat) (xi xt : Int) (c : UInt8) (n : Nat) (y : Value) : Prop :=
  match n with
  | 0 => y = .pointer (some ⟨wq, 0, none⟩)
  | 1 => y = .pointer (some ⟨wq, 0, none⟩)
  | 2 => y = .pointer (some ⟨wq, 1, none⟩)
  | 3 => y = .pointer (some ⟨q, 0, none⟩)
  | 4 => y = .agg #[.int .i64 xi, .int .i64 xt, .string ⟨#[c]⟩]
  | 5 => True
  | _ => True
def rg14Φ (w14 : World) (wq q : Nat) (xi xt : Int) (c : UInt8) (a : Option Addr) (len cap : Nat) (xs : List Value) (n : Nat) (y : Value) (w : World) : Prop :=
  match n with
  | 0 => y = .pointer (some ⟨wq, 0, none⟩)
  | 1 => y = .pointer (some ⟨wq, 0, none⟩)
  | 2 => y = .pointer (some ⟨wq, 0, none⟩)
  | 3 => y = .pointer (some ⟨wq, 3, none⟩)
  | 4 => y = .slice a len cap
  | 5 => y = .pointer (some ⟨wq, 0, none⟩)
  | 6 => y = .pointer (some ⟨wq, 0, none⟩)
  | 7 => y = .pointer (some ⟨wq, 3, none⟩)
  | 8 => y = .slice a len cap
  | 9 => y = .int .i64 (len)
  | 10 => y = .pointer (some ⟨wq, 0, none⟩)
  | 11 => y = .pointer (some ⟨wq, 0, none⟩)
  | 12 => y = .pointer (some ⟨wq, 3, none⟩)
  | 13 => y = .slice a len cap
  | 14 => y = .int .i64 (len)
  | 15 => y = .slice a len len
  | 16 => y = .agg #[.int .i64 xi, .int .i64 xt, .string ⟨#[c]⟩]
  | 17 => ∃ z, y = .slice (some ⟨z, 0, none⟩) 1 1 ∧ w14.heap.size ≤ z ∧ Blk w z 37 [.int .i64 xi, .int .i64 xt, .string ⟨#[c]⟩]
  | 18 => ∃ a' cap', y = .slice a' (len + 1) cap' ∧ Rd w 3 (.slice a' (len + 1) cap') (len + 1) (xs ++ [.int .i64 xi, .int .i64 xt, .string ⟨#[c]⟩]) ∧ ∀ z ∈ vblocks (.slice a' (len + 1) cap'), w14.heap.size ≤ z
  | 19 => y = .pointer (some ⟨wq, 0, none⟩)
  | 20 => y = .pointer (some ⟨wq, 3, none⟩)
  | _ => True
def rg14ΦT (w14 : World) (wq q : Nat) (xi xt : Int) (c : UInt8) (a : Option Addr) (len cap : Nat) (xs : List Value) (n : Nat) (y : Value) : Prop :=
  match n with
  | 0 => y = .pointer (some ⟨wq, 0, none⟩)
  | 1 => y = .pointer (some ⟨wq, 0, none⟩)
  | 2 => y = .pointer (some ⟨wq, 0, none⟩)
  | 3 => y = .pointer (some ⟨wq, 3, none⟩)
  | 4 => y = .slice a len cap
  | 5 => y = .pointer (some ⟨wq, 0, none⟩)
  | 6 => y = .pointer (some ⟨wq, 0, none⟩)
  | 7 => y = .pointer (some ⟨wq, 3, none⟩)
  | 8 => y = .slice a len cap
  | 9 => y = .int .i64 (len)
  | 10 => y = .pointer (some ⟨wq, 0, none⟩)
  | 11 => y = .pointer (some ⟨wq, 0, none⟩)
  | 12 => y = .pointer (some ⟨wq, 3, none⟩)
  | 13 => y = .slice a len cap
  | 14 => y = .int .i64 (len)
  | 15 => y = .slice a len len
  | 16 => y = .agg #[.int .i64 xi, .int .i64 xt, .string ⟨#[c]⟩]
  | 17 => True
  | 18 => True
  | 19 => y = .pointer (some ⟨wq, 0, none⟩)
  | 20 => y = .pointer (some ⟨wq, 3, none⟩)
  | _ => True
def rg16Φ (wq q : Nat) (first : Int) (n : Nat) (y : Value) (w : World) : Prop :=
  match n with
  | 0 => y = .pointer (some ⟨wq, 0, none⟩)
  | 1 => y = .pointer (some ⟨wq, 0, none⟩)
  | 2 => y = .pointer (some ⟨wq, 1, none⟩)
  | 3 => y = .pointer (some ⟨q, 0, none⟩)
  | 4 => y = .pointer (some ⟨wq, 0, none⟩)
  | 5 => y = .pointer (some ⟨wq, 0, none⟩)
  | 6 => y = .pointer (some ⟨wq, 2, none⟩)
  | 7 => y = .int .i64 first
  | 8 => y = .int .i64 (first + 1)
  | _ => True
def rg16ΦT (wq q : Nat) (first : Int) (n : Nat) (y : Value) : Prop :=
  match n with
  | 0 => y = .pointer (some ⟨wq, 0, none⟩)
  | 1 => y = .pointer (some ⟨wq, 0, none⟩)
  | 2 => y = .pointer (some ⟨wq, 1, none⟩)
  | 3 => y = .pointer (some ⟨q, 0, none⟩)
  | 4 => y = .pointer (some ⟨wq, 0, none⟩)
  | 5 => y = .pointer (some ⟨wq, 0, none⟩)
  | 6 => y = .pointer (some ⟨wq, 2, none⟩)
  | 7 => y = .int .i64 first
  | 8 => y = .int .i64 (first + 1)
  | _ => True
def rg22Φ (wq b : Nat) (first : Int) (n : Nat) (y : Value) (w : World) : Prop :=
  match n with
  | 0 => y = .pointer (some ⟨wq, 0, none⟩)
  | 1 => y = .pointer (some ⟨wq, 0, none⟩)
  | 2 => y = .pointer (some ⟨wq, 0, none⟩)
  | 3 => y = .pointer (some ⟨b, 0, none⟩)
  | 4 => y = .pointer (some ⟨wq, 0, none⟩)
  | 5 => y = .pointer (some ⟨wq, 0, none⟩)
  | 6 => y = .pointer (some ⟨wq, 2, none⟩)
  | 7 => y = .int .i64 first
  | _ => True
def rg22ΦT (wq b : Nat) (first : Int) (n : Nat) (y : Value) : Prop :=
  match n with
  | 0 => y = .pointer (some ⟨wq, 0, none⟩)
  | 1 => y = .pointer (some ⟨wq, 0, none⟩)
  | 2 => y = .pointer (some ⟨wq, 0, none⟩)
  | 3 => y = .pointer (some ⟨b, 0, none⟩)
  | 4 => y = .pointer (some ⟨wq, 0, none⟩)
  | 5 => y = .pointer (some ⟨wq, 0, none⟩)
  | 6 => y = .pointer (some ⟨wq, 2, none⟩)
  | 7 => y = .int .i64 first
  | _ => True
set_option maxRecDepth 100000 in
set_option maxHeartbeats 12800000 in
theorem prings_any (n : Int) (_ : -9223372036854775808 ≤ n ∧ n ≤ 9223372036854775807) (keep : Int) (_ : -9223372036854775808 ≤ keep ∧ keep ≤ 9223372036854775807) (w0 : World) :
    Calls Try.prog 5 #[.int .i64 n, .int .i64 keep] w0 fun e w' => e = .returned (.bool true) ∧ Ext [] w0 w' := by
  have hN0 : 0 ≤ n % 64 := Int.emod_nonneg _ (by decide)
  have hN1 : n % 64 < 64 := Int.emod_lt_of_pos _ (by decide)
  have hK0 : 0 ≤ keep % 8 := Int.emod_nonneg _ (by decide)
  have hK1 : keep % 8 < 8 := Int.emod_lt_of_pos _ (by decide)
  obtain ⟨N, hN⟩ : ∃ N : Nat, n % 64 = (N : Int) := ⟨(n % 64).toNat, by omega⟩
  obtain ⟨K, hK⟩ : ∃ K : Nat, keep % 8 = (K : Int) := ⟨(keep % 8).toNat, by omega⟩
  have hNl : N < 64 := by omega
  have hKl : K < 8 := by omega
  clear hN0 hN1 hK0 hK1
  go_enter Try.func5, Try.ntmps5
  go_upto_region 5 with (first
    | (go_at_call 11; (with_reducible refine (head6_any _).mono ?_); rintro e w1 ⟨rfl, hx1⟩; have HX1 := Hid.of hx1; clear hx1))
  have cn := neww w0 w1 HX1.out [] (by simp)
  go_upto_region 9 with (first
    | (go_at_call 13; (with_reducible refine cn.mono ?_); intro e w2 hq; obtain ⟨wq, b, q, rfl, hst, hk⟩ := NewW.st hq; have HS2 : Hid (RSt w0 w2 wq b q 1 (.slice none 0 0) [] [] none 0) := Hid.of ⟨hst, Rd.nil _ _⟩; clear hq hst hk cn))
  clear hN hK
  go_loopw [6] (fun u6 wr => ∃ (k : Nat) (first : Int) (all : List Ent) (q' : Nat) (a : Option Addr) (cap : Nat), u6 = .int .i64 ((k : Int) + 1) ∧ k ≤ N ∧ (first + all.length = (k : Int) + 1) ∧ all.length ≤ K ∧ Hid (RSt w0 wr wq b q' first (.slice none 0 0) all [] a cap)) (fun u6 _ => N + 1 - (intOf u6).toNat)
  case atStart => exact ⟨0, 1, [], q, none, 0, rfl, by omega, rfl, by simp, HS2⟩
  case round =>
    obtain ⟨k, first, all, q', a, cap, rfl, hk, hfk, hal, hS⟩ := hrel
    clear HS2
    generalize q' = q at hS
    obtain ⟨f1, f2⟩ := hS.out.1.first_rng
    by_cases hkN : k < N
    · have hw1 : IntKind.u8.wrap ((k : Int) + 1) = (k : Int) + 1 := by rw [IntKind.wrap_u8]; omega
      obtain ⟨c, hcc⟩ : ∃ c, c = UInt8.ofNat (k + 1) := ⟨_, rfl⟩
      have hc : ((k : Int) + 1) = (c.toNat : Int) := by rw [hcc, UInt8.toNat_ofNat']; omega
      have hcv := run_string_Rd (P := Try.prog) (w := wr.alloc (.cells #[.int .u8 ((k : Int) + 1)] 5)) 62 9 5 Try.underlying62 Try.underlying5 Try.underlying9 _ 1 _ (Rd.byte hc)
      obtain ⟨T, hT⟩ : ∃ T : Nat, ((k : Int) + 1).tdiv 5 = (T : Int) := ⟨(k + 1) / 5, by rw [Int.tdiv_eq_ediv_of_nonneg (by omega)]; omega⟩
      have hTl : T ≤ 13 := by rw [Int.tdiv_eq_ediv_of_nonneg (by omega)] at hT; omega
      clear hcc hc
      have hq0 := hS.out.1.new0
      obtain ⟨hSt, hRd⟩ := hS.out
      obtain ⟨len, hlen⟩ : ∃ x, x = all.length := ⟨_, rfl⟩
      rw [← hlen] at hSt hRd hfk hal
      obtain ⟨wm, hwm⟩ : ∃ W, W = wr.alloc (.cells #[.int .u8 ((k : Int) + 1)] 5) := ⟨_, rfl⟩
      obtain ⟨xt, hxt⟩ : ∃ x : Int, x = 1 + (T : Int) := ⟨_, rfl⟩
      obtain ⟨xi, hxi⟩ : ∃ x : Int, x = (k : Int) + 1 := ⟨_, rfl⟩
      obtain ⟨E, hE⟩ : ∃ x, x = wr.heap.size + 1 := ⟨_, rfl⟩
      have hEm : E = wm.heap.size := by rw [hE, hwm]; simp
      have xm : Ext [] wr wm := by rw [hwm]; exact (Ext.refl _ _).alloc _
      obtain ⟨w12, hw12⟩ : ∃ W, W = wm.alloc (.cells #[.int .i64 xi, .int .i64 xt, .string ⟨#[c]⟩] 37) := ⟨_, rfl⟩
      have x12 : Ext [] wm w12 := by rw [hw12]; exact (Ext.refl _ _).alloc _
      have hEB : Blk w12 E 37 [.int .i64 xi, .int .i64 xt, .string ⟨#[c]⟩] := by rw [hEm, hw12]; exact Blk.new wm 37 #[.int .i64 xi, .int .i64 xt, .string ⟨#[c]⟩]
      obtain ⟨O1, hO1⟩ : ∃ x, x = vblocks (.slice a len cap) ++ [] := ⟨_, rfl⟩
      rw [← hO1] at hSt
      have hSE := (hSt.keep xm).add x12 E (by omega) hEB.lt
      have hR12 := (hRd.keep xm (by simp)).keep x12 (by simp)
      have he0 : appE8 first all [⟨xi, xt, [c]⟩] = 0 := appE8_next (by omega) (by show xi = first + all.length; omega) (by unfold Ent.bad; simp; omega)
      have hea : appA8 first all [⟨xi, xt, [c]⟩] = all ++ [⟨xi, xt, [c]⟩] := if_pos he0
      have cA := fun w' z (hx : Ext [] w12 w') (hz : w12.heap.size ≤ z) hb => hSE.append1 ⟨xi, xt, [c]⟩ (ent_i64 (by omega) (by omega) (by omega) (by omega) (by simp)) w' z hx hz hb
      rw [he0, hea] at cA
      have hb12 := hSE.blk
      have c1 := fun w' (hx : Ext [] w12 w') => Blk.c (Blk.keep hb12 hx List.not_mem_nil) 1
      simp only [List.getElem?_cons_zero, List.getElem?_cons_succ] at c1
      have cE := fun w' (hx : Ext [] w12 w') => row3 (Blk.keep hEB hx List.not_mem_nil)
      have HEB := Hid.of hEB
      have HR12 := Hid.of hR12
      have HO1 := Hid.of hO1
      have HLen := Hid.of hlen
      have HFk := Hid.of hfk
      have HCA := Hid.of cA
      clear cA
      have HXi := Hid.of (And.intro hxi hxt)
      clear he0 hea hSE hSt hRd hR12 hb12 hEB hO1 xm x12 hEm hlen hS
      go_upto_region 12 with fail
      rw [← hE, ← hwm, ← hxi, ← hxt, ← hw12]
      clear hE hwm hxt hw12 hxi
      have cA := HCA.out
      refine wp_region_stepsm [33, 34, 35, 36, 37, 38, 39, 40] 6 (rg12Φ w12 wq q xi xt c) (rg12ΦT w12 wq q xi xt c) (fun v w => v = .int .i64 0 ∧ St w0 w wq b q first (.slice a len cap) (.slice none 0 0) (all ++ [⟨xi, xt, [c]⟩]) (E :: O1) ∧ Kept (E :: O1) w12 w) (fun v n y => match n with | 7 => y = .bool false | _ => True) (by kernel_rfl) (by kernel_rfl) (fun n y w w' h hx => by unfold rg12Φ at h ⊢; split at h; all_goals first | exact h | (obtain ⟨z, h1, h2, h3⟩ := h; exact ⟨z, h1, h2, Blk.keep h3 hx List.not_mem_nil⟩)) (fun n y w' hn h => by unfold rg12Φ at h; unfold rg12ΦT; split at h <;> first | exact h | trivial) ?hst_12 ?hend_12
      case hst_12 =>
        refine ⟨?f0_12, ?f1_12, ?f2_12, ?f3_12, ?f4_12, ?f5_12, ?f6_12, ?f7_12, trivial⟩
        case f0_12 =>
          refine (if_pos (by decide)).mpr ?_
          intro g w' hx hd
          refine op_run rfl ?_
          generalize hA : mkAct _ _ g = A
          have h5 : A.tmps[5]?.getD undef = .pointer (some ⟨wq, 0, none⟩) := by rw [← hA]; exact mkAct_out2 _ _ _ _ _ rfl rfl
          refine step_val (v := .pointer (some ⟨wq, 0, none⟩)) (w' := w') ?_ ⟨_, rfl, Ext.refl _ _, rfl⟩
          simp [execOp, h5, Result.andThen, go_sem]
        case f1_12 =>
          refine (if_pos (by decide)).mpr ?_
          intro g w' hx hd
          refine op_run rfl ?_
          have e33 : g 33 = .pointer (some ⟨wq, 0, none⟩) := hd ⟨0, .data⟩ (by simp) rfl
          generalize hA : mkAct _ _ g = A
          have h33 : A.tmps[33]?.getD undef = .pointer (some ⟨wq, 0, none⟩) := by rw [← hA, mkAct_in2 _ _ _ _ rfl rfl]; exact e33
          refine step_val (v := .pointer (some ⟨wq, 0, none⟩)) (w' := w') ?_ ⟨_, rfl, Ext.refl _ _, rfl⟩
          simp [execOp, h33, Result.andThen, go_sem]
        case f2_12 =>
          refine (if_pos (by decide)).mpr ?_
          intro g w' hx hd
          refine op_run rfl ?_
          have e34 : g 34 = .pointer (some ⟨wq, 0, none⟩) := hd ⟨1, .data⟩ (by simp) rfl
          generalize hA : mkAct _ _ g = A
          have h34 : A.tmps[34]?.getD undef = .pointer (some ⟨wq, 0, none⟩) := by rw [← hA, mkAct_in2 _ _ _ _ rfl rfl]; exact e34
          refine step_val (v := .pointer (some ⟨wq, 1, none⟩)) (w' := w') ?_ ⟨_, rfl, Ext.refl _ _, rfl⟩
          simp [execOp, h34, Result.andThen, go_sem]
        case f3_12 =>
          refine (if_pos (by decide)).mpr ?_
          intro g w' hx hd
          refine op_run rfl ?_
          have e35 : g 35 = .pointer (some ⟨wq, 1, none⟩) := hd ⟨2, .data⟩ (by simp) rfl
          generalize hA : mkAct _ _ g = A
          have h35 : A.tmps[35]?.getD undef = .pointer (some ⟨wq, 1, none⟩) := by rw [← hA, mkAct_in2 _ _ _ _ rfl rfl]; exact e35
          have c := c1 w' hx
          refine step_val (v := .pointer (some ⟨q, 0, none⟩)) (w' := w') ?_ ⟨_, rfl, Ext.refl _ _, rfl⟩
          simp [execOp, h35, c, Result.andThen, go_sem]
        case f4_12 =>
          refine (if_pos (by decide)).mpr ?_
          intro g w' hx hd
          refine op_run rfl ?_
          generalize hA : mkAct _ _ g = A
          have h7 : A.tmps[7]?.getD undef = .pointer (some ⟨E, 0, none⟩) := by rw [← hA]; exact mkAct_out2 _ _ _ _ _ rfl rfl
          obtain ⟨d0, d1, d2⟩ := cE w' hx
          refine step_val (v := .agg #[.int .i64 xi, .int .i64 xt, .string ⟨#[c]⟩]) (w' := w') ?_ ⟨_, rfl, Ext.refl _ _, rfl⟩
          simp [execOp, h7, d0, d1, d2, Result.andThen, go_sem]
        case f5_12 =>
          refine (if_pos (by decide)).mpr ?_
          intro g w' hx hd
          refine op_run rfl ?_
          have e37 : g 37 = .agg #[.int .i64 xi, .int .i64 xt, .string ⟨#[c]⟩] := hd ⟨4, .data⟩ (by simp) rfl
          generalize hA : mkAct _ _ g = A
          have h37 : A.tmps[37]?.getD undef = .agg #[.int .i64 xi, .int .i64 xt, .string ⟨#[c]⟩] := by rw [← hA, mkAct_in2 _ _ _ _ rfl rfl]; exact e37
          refine step_val (v := .slice (some ⟨w'.heap.size, 0, none⟩) 1 1) (w' := w'.alloc (.cells #[.int .i64 xi, .int .i64 xt, .string ⟨#[c]⟩] 37)) ?_ ⟨_, rfl, (Ext.refl _ _).alloc _, w'.heap.size, rfl, hx.size, Blk.new w' 37 #[.int .i64 xi, .int .i64 xt, .string ⟨#[c]⟩]⟩
          simp [execOp, h37, Result.andThen, go_sem]
        case f6_12 =>
          refine (if_neg (by decide)).mpr ((if_pos rfl).mpr ?_)
          intro g w' hx hd
          refine op_run rfl ?_
          obtain ⟨z, e38, hz, hb⟩ := hd 5 (by decide)
          replace e38 : g 38 = _ := e38
          have e36 : g 36 = .pointer (some ⟨q, 0, none⟩) := hd 3 (by decide)
          generalize hA : mkAct _ _ g = A
          have h38 : A.tmps[38]?.getD undef = g 38 := by rw [← hA]; exact mkAct_in2 _ _ _ _ rfl rfl
          rw [e38] at h38
          have h36 : A.tmps[36]?.getD undef = .pointer (some ⟨q, 0, none⟩) := by rw [← hA, mkAct_in2 _ _ _ _ rfl rfl]; exact e36
          refine mid_k (fun K hK => ?_)
          go_simp
          refine (cA w' z hx hz hb).mono ?_
          rintro e w2 ⟨rfl, hs2, hk2⟩
          exact hK (.int .i64 0) w2 ⟨rfl, hs2, hk2⟩
        case f7_12 =>
          refine (if_neg (by decide)).mpr ((if_neg (by decide)).mpr ?_)
          intro g v w' hM hT hv hd
          refine op_run rfl ?_
          obtain ⟨rfl, -, -⟩ := hM
          have e39 := hv (Option.some_ne_none _)
          replace e39 : g 39 = _ := e39
          generalize hA : mkAct _ _ g = A
          have h39 : A.tmps[39]?.getD undef = g 39 := by rw [← hA]; exact mkAct_in2 _ _ _ _ rfl rfl
          rw [e39] at h39
          refine step_val (w' := w') ?_ ⟨_, rfl, rfl, rfl⟩
          simp [execOp, h39, tupAt, Result.andThen, go_sem]
      intro g v wn hM hT hv hd
      obtain ⟨rfl, hs13, hk13⟩ := hM
      have e40 : g 40 = .bool false := hd 7 (by decide) (by decide)
      clear hd hv hT cA c1 cE HCA
      unfold mkAct; simp only [List.zipIdx_cons, List.zipIdx_nil, List.map_cons, List.map_nil, Nat.zero_add, Nat.reduceAdd, List.contains_cons, List.contains_nil, Nat.reduceBEq, Bool.or_false, Bool.or_true, ↓reduceIte, Bool.false_eq_true]
      rw [e40]
      clear e40
      obtain ⟨w14, hw14⟩ : ∃ W, W = wn := ⟨_, rfl⟩
      rw [← hw14] at hs13 hk13 ⊢
      clear hw14
      have hEB := hk13.blk HEB.out (by simp)
      have hR14 : Rd w14 3 (.slice a len cap) len (all.flatMap Ent.cells) := hk13.rd HR12.out (fun z hz => by rw [HO1.out]; simp [hz])
      have hb14 := hs13.blk
      have c3 := fun w' (hx : Ext [] w14 w') => Blk.c (Blk.keep hb14 hx List.not_mem_nil) 3
      have cF := fun w' (hx : Ext [] w14 w') => Blk.f (Blk.keep hb14 hx List.not_mem_nil) 3
      simp only [List.getElem?_cons_zero, List.getElem?_cons_succ] at c3
      have cE := fun w' (hx : Ext [] w14 w') => row3 (Blk.keep hEB hx List.not_mem_nil)
      obtain ⟨xs, hxs⟩ : ∃ x, x = all.flatMap Ent.cells := ⟨_, rfl⟩
      obtain ⟨all2, hall2⟩ : ∃ x, x = all ++ [⟨xi, xt, [c]⟩] := ⟨_, rfl⟩
      have hlen2 : all2.length = len + 1 := by rw [hall2, List.length_append, ← HLen.out]; rfl
      rw [← hxs] at hR14
      rw [← hall2] at hs13
      have hfl : xs ++ [.int .i64 xi, .int .i64 xt, .string ⟨#[c]⟩] = all2.flatMap Ent.cells := by rw [hall2, List.flatMap_append, hxs]; rfl
      have cR := fun w' (hx : Ext [] w14 w') => hR14.keep hx (by simp)
      have hcap : len ≤ cap := hR14.len.2.1
      have hAll : ∀ w' a' cap', Ext [] w14 w' → Rd w' 3 (.slice a' (len + 1) cap') (len + 1) (xs ++ [.int .i64 xi, .int .i64 xt, .string ⟨#[c]⟩]) → (∀ z ∈ vblocks (.slice a' (len + 1) cap'), w14.heap.size ≤ z) → RingMid w0 (w'.setCell ⟨wq, 3, none⟩ (.slice a' (len + 1) cap')) wq b q first all2 E := by
        intro w' a' cap' hx hr hz
        rw [hfl] at hr
        have := (hs13.sub (O' := []) (by simp)).fresh hx hr hlen2 (by omega) hz
        exact ⟨a', cap', this.1⟩
      have HLen2 := Hid.of hlen2
      clear hR14 hb14 hxs hall2 hlen2 hfl hEB hs13 hk13 HLen HEB HR12 HO1
      go_upto_region 14 with fail
      refine wp_region_stepsm [41, 42, 43, 44, 45, 46, 47, 48, 49, 50, 51, 52, 53, 54, 55, 56, 57, 58, 59, 60, 61] 21 (rg14Φ w14 wq q xi xt c a len cap xs) (rg14ΦT w14 wq q xi xt c a len cap xs) (fun v w => RingMid w0 w wq b q first all2 E) (fun v n y => match n with | _ => True) (by kernel_rfl) (by kernel_rfl) (fun n y w w' h hx => by unfold rg14Φ at h ⊢; split at h; all_goals first | exact h | (obtain ⟨z, h1, h2, h3⟩ := h; exact ⟨z, h1, h2, Blk.keep h3 hx List.not_mem_nil⟩) | (obtain ⟨a', cap', h1, h2, h3⟩ := h; exact ⟨a', cap', h1, h2.keep hx (by simp), h3⟩)) (fun n y w' hn h => by unfold rg14Φ at h; unfold rg14ΦT; split at h <;> first | exact h | trivial) ?hst_14 ?hend_14
      case hst_14 =>
        refine ⟨?f0_14, ?f1_14, ?f2_14, ?f3_14, ?f4_14, ?f5_14, ?f6_14, ?f7_14, ?f8_14, ?f9_14, ?f10_14, ?f11_14, ?f12_14, ?f13_14, ?f14_14, ?f15_14, ?f16_14, ?f17_14, ?f18_14, ?f19_14, ?f20_14, ?f21_14, trivial⟩
        case f0_14 =>
          refine (if_pos (by decide)).mpr ?_
          intro g w' hx hd
          refine op_run rfl ?_
          generalize hA : mkAct _ _ g = A
          have h5 : A.tmps[5]?.getD undef = .pointer (some ⟨wq, 0, none⟩) := by rw [← hA]; exact mkAct_out2 _ _ _ _ _ rfl rfl
          refine step_val (v := .pointer (some ⟨wq, 0, none⟩)) (w' := w') ?_ ⟨_, rfl, Ext.refl _ _, rfl⟩
          simp [execOp, h5, Result.andThen, go_sem]
        case f1_14 =>
          refine (if_pos (by decide)).mpr ?_
          intro g w' hx hd
          refine op_run rfl ?_
          generalize hA : mkAct _ _ g = A
          have h5 : A.tmps[5]?.getD undef = .pointer (some ⟨wq, 0, none⟩) := by rw [← hA]; exact mkAct_out2 _ _ _ _ _ rfl rfl
          refine step_val (v := .pointer (some ⟨wq, 0, none⟩)) (w' := w') ?_ ⟨_, rfl, Ext.refl _ _, rfl⟩
          simp [execOp, h5, Result.andThen, go_sem]
        case f2_14 =>
          refine (if_pos (by decide)).mpr ?_
          intro g w' hx hd
          refine op_run rfl ?_
          have e42 : g 42 = .pointer (some ⟨wq, 0, none⟩) := hd ⟨1, .data⟩ (by simp) rfl
          generalize hA : mkAct _ _ g = A
          have h42 : A.tmps[42]?.getD undef = .pointer (some ⟨wq, 0, none⟩) := by rw [← hA, mkAct_in2 _ _ _ _ rfl rfl]; exact e42
          refine step_val (v := .pointer (some ⟨wq, 0, none⟩)) (w' := w') ?_ ⟨_, rfl, Ext.refl _ _, rfl⟩
          simp [execOp, h42, Result.andThen, go_sem]
        case f3_14 =>
          refine (if_pos (by decide)).mpr ?_
          intro g w' hx hd
          refine op_run rfl ?_
          have e43 : g 43 = .pointer (some ⟨wq, 0, none⟩) := hd ⟨2, .data⟩ (by simp) rfl
          generalize hA : mkAct _ _ g = A
          have h43 : A.tmps[43]?.getD undef = .pointer (some ⟨wq, 0, none⟩) := by rw [← hA, mkAct_in2 _ _ _ _ rfl rfl]; exact e43
          refine step_val (v := .pointer (some ⟨wq, 3, none⟩)) (w' := w') ?_ ⟨_, rfl, Ext.refl _ _, rfl⟩
          simp [execOp, h43, Result.andThen, go_sem]
        case f4_14 =>
          refine (if_pos (by decide)).mpr ?_
          intro g w' hx hd
          refine op_run rfl ?_
          have e44 : g 44 = .pointer (some ⟨wq, 3, none⟩) := hd ⟨3, .data⟩ (by simp) rfl
          generalize hA : mkAct _ _ g = A
          have h44 : A.tmps[44]?.getD undef = .pointer (some ⟨wq, 3, none⟩) := by rw [← hA, mkAct_in2 _ _ _ _ rfl rfl]; exact e44
          have c := c3 w' hx
          refine step_val (v := .slice a len cap) (w' := w') ?_ ⟨_, rfl, Ext.refl _ _, rfl⟩
          simp [execOp, h44, c, Result.andThen, go_sem]
        case f5_14 =>
          refine (if_pos (by decide)).mpr ?_
          intro g w' hx hd
          refine op_run rfl ?_
          generalize hA : mkAct _ _ g = A
          have h5 : A.tmps[5]?.getD undef = .pointer (some ⟨wq, 0, none⟩) := by rw [← hA]; exact mkAct_out2 _ _ _ _ _ rfl rfl
          refine step_val (v := .pointer (some ⟨wq, 0, none⟩)) (w' := w') ?_ ⟨_, rfl, Ext.refl _ _, rfl⟩
          simp [execOp, h5, Result.andThen, go_sem]
        case f6_14 =>
          refine (if_pos (by decide)).mpr ?_
          intro g w' hx hd
          refine op_run rfl ?_
          have e46 : g 46 = .pointer (some ⟨wq, 0, none⟩) := hd ⟨5, .data⟩ (by simp) rfl
          generalize hA : mkAct _ _ g = A
          have h46 : A.tmps[46]?.getD undef = .pointer (some ⟨wq, 0, none⟩) := by rw [← hA, mkAct_in2 _ _ _ _ rfl rfl]; exact e46
          refine step_val (v := .pointer (some ⟨wq, 0, none⟩)) (w' := w') ?_ ⟨_, rfl, Ext.refl _ _, rfl⟩
          simp [execOp, h46, Result.andThen, go_sem]
        case f7_14 =>
          refine (if_pos (by decide)).mpr ?_
          intro g w' hx hd
          refine op_run rfl ?_
          have e47 : g 47 = .pointer (some ⟨wq, 0, none⟩) := hd ⟨6, .data⟩ (by simp) rfl
          generalize hA : mkAct _ _ g = A
          have h47 : A.tmps[47]?.getD undef = .pointer (some ⟨wq, 0, none⟩) := by rw [← hA, mkAct_in2 _ _ _ _ rfl rfl]; exact e47
          refine step_val (v := .pointer (some ⟨wq, 3, none⟩)) (w' := w') ?_ ⟨_, rfl, Ext.refl _ _, rfl⟩
          simp [execOp, h47, Result.andThen, go_sem]
        case f8_14 =>
          refine (if_pos (by decide)).mpr ?_
          intro g w' hx hd
          refine op_run rfl ?_
          have e48 : g 48 = .pointer (some ⟨wq, 3, none⟩) := hd ⟨7, .data⟩ (by simp) rfl
          generalize hA : mkAct _ _ g = A
          have h48 : A.tmps[48]?.getD undef = .pointer (some ⟨wq, 3, none⟩) := by rw [← hA, mkAct_in2 _ _ _ _ rfl rfl]; exact e48
          have c := c3 w' hx
          refine step_val (v := .slice a len cap) (w' := w') ?_ ⟨_, rfl, Ext.refl _ _, rfl⟩
          simp [execOp, h48, c, Result.andThen, go_sem]
        case f9_14 =>
          refine (if_pos (by decide)).mpr ?_
          intro g w' hx hd
          refine op_run rfl ?_
          have e49 : g 49 = .slice a len cap := hd ⟨8, .data⟩ (by simp) rfl
          generalize hA : mkAct _ _ g = A
          have h49 : A.tmps[49]?.getD undef = .slice a len cap := by rw [← hA, mkAct_in2 _ _ _ _ rfl rfl]; exact e49
          refine step_val (v := .int .i64 (len)) (w' := w') ?_ ⟨_, rfl, Ext.refl _ _, rfl⟩
          simp [execOp, h49, Result.andThen, go_sem]
        case f10_14 =>
          refine (if_pos (by decide)).mpr ?_
          intro g w' hx hd
          refine op_run rfl ?_
          generalize hA : mkAct _ _ g = A
          have h5 : A.tmps[5]?.getD undef = .pointer (some ⟨wq, 0, none⟩) := by rw [← hA]; exact mkAct_out2 _ _ _ _ _ rfl rfl
          refine step_val (v := .pointer (some ⟨wq, 0, none⟩)) (w' := w') ?_ ⟨_, rfl, Ext.refl _ _, rfl⟩
          simp [execOp, h5, Result.andThen, go_sem]
        case f11_14 =>
          refine (if_pos (by decide)).mpr ?_
          intro g w' hx hd
          refine op_run rfl ?_
          have e51 : g 51 = .pointer (some ⟨wq, 0, none⟩) := hd ⟨10, .data⟩ (by simp) rfl
          generalize hA : mkAct _ _ g = A
          have h51 : A.tmps[51]?.getD undef = .pointer (some ⟨wq, 0, none⟩) := by rw [← hA, mkAct_in2 _ _ _ _ rfl rfl]; exact e51
          refine step_val (v := .pointer (some ⟨wq, 0, none⟩)) (w' := w') ?_ ⟨_, rfl, Ext.refl _ _, rfl⟩
          simp [execOp, h51, Result.andThen, go_sem]
        case f12_14 =>
          refine (if_pos (by decide)).mpr ?_
          intro g w' hx hd
          refine op_run rfl ?_
          have e52 : g 52 = .pointer (some ⟨wq, 0, none⟩) := hd ⟨11, .data⟩ (by simp) rfl
          generalize hA : mkAct _ _ g = A
          have h52 : A.tmps[52]?.getD undef = .pointer (some ⟨wq, 0, none⟩) := by rw [← hA, mkAct_in2 _ _ _ _ rfl rfl]; exact e52
          refine step_val (v := .pointer (some ⟨wq, 3, none⟩)) (w' := w') ?_ ⟨_, rfl, Ext.refl _ _, rfl⟩
          simp [execOp, h52, Result.andThen, go_sem]
        case f13_14 =>
          refine (if_pos (by decide)).mpr ?_
          intro g w' hx hd
          refine op_run rfl ?_
          have e53 : g 53 = .pointer (some ⟨wq, 3, none⟩) := hd ⟨12, .data⟩ (by simp) rfl
          generalize hA : mkAct _ _ g = A
          have h53 : A.tmps[53]?.getD undef = .pointer (some ⟨wq, 3, none⟩) := by rw [← hA, mkAct_in2 _ _ _ _ rfl rfl]; exact e53
          have c := c3 w' hx
          refine step_val (v := .slice a len cap) (w' := w') ?_ ⟨_, rfl, Ext.refl _ _, rfl⟩
          simp [execOp, h53, c, Result.andThen, go_sem]
        case f14_14 =>
          refine (if_pos (by decide)).mpr ?_
          intro g w' hx hd
          refine op_run rfl ?_
          have e54 : g 54 = .slice a len cap := hd ⟨13, .data⟩ (by simp) rfl
          generalize hA : mkAct _ _ g = A
          have h54 : A.tmps[54]?.getD undef = .slice a len cap := by rw [← hA, mkAct_in2 _ _ _ _ rfl rfl]; exact e54
          refine step_val (v := .int .i64 (len)) (w' := w') ?_ ⟨_, rfl, Ext.refl _ _, rfl⟩
          simp [execOp, h54, Result.andThen, go_sem]
        case f15_14 =>
          refine (if_pos (by decide)).mpr ?_
          intro g w' hx hd
          refine op_run rfl ?_
          have e45 : g 45 = .slice a len cap := hd ⟨4, .data⟩ (by simp) rfl
          have e50 : g 50 = .int .i64 (len) := hd ⟨9, .data⟩ (by simp) rfl
          have e55 : g 55 = .int .i64 (len) := hd ⟨14, .data⟩ (by simp) rfl
          generalize hA : mkAct _ _ g = A
          have h45 : A.tmps[45]?.getD undef = .slice a len cap := by rw [← hA, mkAct_in2 _ _ _ _ rfl rfl]; exact e45
          have h50 : A.tmps[50]?.getD undef = .int .i64 (len) := by rw [← hA, mkAct_in2 _ _ _ _ rfl rfl]; exact e50
          have h55 : A.tmps[55]?.getD undef = .int .i64 (len) := by rw [← hA, mkAct_in2 _ _ _ _ rfl rfl]; exact e55
          refine step_val (v := .slice a len len) (w' := w') ?_ ⟨_, rfl, Ext.refl _ _, rfl⟩
          simp [execOp, hcap, map_add0, h45, h50, h55, Result.andThen, go_sem]
        case f16_14 =>
          refine (if_pos (by decide)).mpr ?_
          intro g w' hx hd
          refine op_run rfl ?_
          generalize hA : mkAct _ _ g = A
          have h7 : A.tmps[7]?.getD undef = .pointer (some ⟨E, 0, none⟩) := by rw [← hA]; exact mkAct_out2 _ _ _ _ _ rfl rfl
          obtain ⟨d0, d1, d2⟩ := cE w' hx
          refine step_val (v := .agg #[.int .i64 xi, .int .i64 xt, .string ⟨#[c]⟩]) (w' := w') ?_ ⟨_, rfl, Ext.refl _ _, rfl⟩
          simp [execOp, h7, d0, d1, d2, Result.andThen, go_sem]
        case f17_14 =>
          refine (if_pos (by decide)).mpr ?_
          intro g w' hx hd
          refine op_run rfl ?_
          have e57 : g 57 = .agg #[.int .i64 xi, .int .i64 xt, .string ⟨#[c]⟩] := hd ⟨16, .data⟩ (by simp) rfl
          generalize hA : mkAct _ _ g = A
          have h57 : A.tmps[57]?.getD undef = .agg #[.int .i64 xi, .int .i64 xt, .string ⟨#[c]⟩] := by rw [← hA, mkAct_in2 _ _ _ _ rfl rfl]; exact e57
          refine step_val (v := .slice (some ⟨w'.heap.size, 0, none⟩) 1 1) (w' := w'.alloc (.cells #[.int .i64 xi, .int .i64 xt, .string ⟨#[c]⟩] 37)) ?_ ⟨_, rfl, (Ext.refl _ _).alloc _, w'.heap.size, rfl, hx.size, Blk.new w' 37 #[.int .i64 xi, .int .i64 xt, .string ⟨#[c]⟩]⟩
          simp [execOp, h57, Result.andThen, go_sem]
        case f18_14 =>
          refine (if_pos (by decide)).mpr ?_
          intro g w' hx hd
          refine op_run rfl ?_
          have e56 : g 56 = .slice a len len := hd ⟨15, .data⟩ (by simp) rfl
          obtain ⟨z, e58, hz, hb⟩ := hd ⟨17, .data⟩ (by simp) rfl
          generalize hA : mkAct _ _ g = A
          have h56 : A.eval (.tmp 56) = .slice a len len := by rw [← hA, mkAct_in _ _ _ _ rfl rfl]; exact e56
          have h58 : A.eval (.tmp 58) = .slice (some ⟨z, 0, none⟩) 1 1 := by rw [← hA, mkAct_in _ _ _ _ rfl rfl]; exact e58
          refine wp_append_full (.tmp 56) (.tmp 58) 33 rfl 37 _ 3 32 el_ents a len xs h56 ((cR w' hx).full) (.slice (some ⟨z, 0, none⟩) 1 1) 1 [.int .i64 xi, .int .i64 xt, .string ⟨#[c]⟩] h58 (Rd.ofBlk hb rfl (by unfold maxLen; omega)) (by omega) (by unfold maxLen; omega) (fun v' w2 hr2 hx2 hv2 => ?_)
          obtain ⟨a', cap', rfl⟩ := Rd.isSlice hr2
          refine ⟨_, rfl, hx2, a', cap', rfl, hr2, fun y hy => ?_⟩
          rcases hv2 with ⟨h, _⟩ | ⟨h, _⟩
          · omega
          · rw [h] at hy; have := hx.size; simp at hy; omega
        case f19_14 =>
          refine (if_pos (by decide)).mpr ?_
          intro g w' hx hd
          refine op_run rfl ?_
          have e41 : g 41 = .pointer (some ⟨wq, 0, none⟩) := hd ⟨0, .data⟩ (by simp) rfl
          generalize hA : mkAct _ _ g = A
          have h41 : A.tmps[41]?.getD undef = .pointer (some ⟨wq, 0, none⟩) := by rw [← hA, mkAct_in2 _ _ _ _ rfl rfl]; exact e41
          refine step_val (v := .pointer (some ⟨wq, 0, none⟩)) (w' := w') ?_ ⟨_, rfl, Ext.refl _ _, rfl⟩
          simp [execOp, h41, Result.andThen, go_sem]
        case f20_14 =>
          refine (if_pos (by decide)).mpr ?_
          intro g w' hx hd
          refine op_run rfl ?_
          have e60 : g 60 = .pointer (some ⟨wq, 0, none⟩) := hd ⟨19, .data⟩ (by simp) rfl
          generalize hA : mkAct _ _ g = A
          have h60 : A.tmps[60]?.getD undef = .pointer (some ⟨wq, 0, none⟩) := by rw [← hA, mkAct_in2 _ _ _ _ rfl rfl]; exact e60
          refine step_val (v := .pointer (some ⟨wq, 3, none⟩)) (w' := w') ?_ ⟨_, rfl, Ext.refl _ _, rfl⟩
          simp [execOp, h60, Result.andThen, go_sem]
        case f21_14 =>
          refine (if_neg (by decide)).mpr ((if_pos rfl).mpr ?_)
          intro g w' hx hd
          refine op_run rfl ?_
          obtain ⟨a', cap', e59, hr2, hz2⟩ := hd 18 (by decide)
          replace e59 : g 59 = _ := e59
          have e61 : g 61 = .pointer (some ⟨wq, 3, none⟩) := hd 20 (by decide)
          generalize hA : mkAct _ _ g = A
          have h59 : A.tmps[59]?.getD undef = .slice a' (len + 1) cap' := by rw [← hA, mkAct_in2 _ _ _ _ rfl rfl]; exact e59
          have h61 : A.tmps[61]?.getD undef = .pointer (some ⟨wq, 3, none⟩) := by rw [← hA, mkAct_in2 _ _ _ _ rfl rfl]; exact e61
          have c3 := c3 w' hx
          have cf := cF w' hx
          refine step_skip (w' := w'.setCell ⟨wq, 3, none⟩ (.slice a' (len + 1) cap')) ?_ ⟨_, rfl, hAll w' a' cap' hx hr2 hz2⟩
          simp [execOp, h59, h61, c3, cf, Result.andThen, go_sem]
      intro g v wn hM hT hv hd
      obtain ⟨a2, cap2, hRS⟩ := hM
      clear hd hv hT c3 cF cE cR hAll
      unfold mkAct; simp only [List.zipIdx_cons, List.zipIdx_nil, List.map_cons, List.map_nil, Nat.zero_add, Nat.reduceAdd, List.contains_cons, List.contains_nil, Nat.reduceBEq, Bool.or_false, Bool.or_true, ↓reduceIte, Bool.false_eq_true]
      have HRS := Hid.of hRS
      clear hRS
      go_upto_region 15 with fail
      go_loopw [] (fun wr => ∃ (first : Int) (all : List Ent) (a : Option Addr) (cap : Nat), first + all.length = xi + 1 ∧ all.length ≤ K + 1 ∧ Hid (RSt w0 wr wq b q first (.slice none 0 0) all [] a cap)) (fun wr => lenAt3 wr wq)
      case atStart => exact ⟨first, all2, a2, cap2, by have := HLen2.out; have := HXi.out.1; have := HFk.out; omega, by have := HLen2.out; omega, HRS⟩
      case round =>
        obtain ⟨first, all, a, cap, hf2, hl2, hS⟩ := hrel
        clear HRS
        obtain ⟨hSt, hRd⟩ := hS.out
        obtain ⟨f1, f2⟩ := hSt.first_rng
        have hq0 := hSt.new0
        obtain ⟨len, hlen⟩ : ∃ x, x = all.length := ⟨_, rfl⟩
        rw [← hlen] at hSt hRd hf2 hl2
        have hbr := hSt.blk
        have c3 : wr.cell? ⟨wq, 3, none⟩ = some (.slice a len cap) := Blk.c hbr 3
        have hxi := HXi.out.1
        by_cases hgt : K < len
        · obtain ⟨g, off, rfl, hgw, -⟩ := hRd.view (by omega)
          have hcap := hRd.len.2.1
          obtain ⟨first2, hfi2⟩ : ∃ x, x = first + 1 := ⟨_, rfl⟩
          have cD : ∀ w', Ext [] wr w' → Calls Try.prog 27 #[.pointer (some ⟨q, 0, none⟩), .int .i64 (first + 1)] w' fun e w2 => e = .returned (.int .i64 0) ∧ DropMid w0 wr w2 wq b q first first2 (.slice (some ⟨g, off, none⟩) len cap) all [g] := by
            intro w' hx
            have h1 := (hSt.keep hx).dropc 1 (by omega) (by omega)
            rw [show first + ((1 : Nat) : Int) = first + 1 from rfl, ← hfi2] at h1
            rw [← hfi2]
            refine h1.mono ?_
            rintro e w2 ⟨he, hk, hb, hf⟩
            exact ⟨he, (hk.sub (O' := wq :: [g]) (by simp [vblocks])).from hx, hb, fun w'' va' vm' hx2 hb2 => hf w'' va' vm' hx2 hb2⟩
          have c1 := fun w' (hx : Ext [] wr w') => Blk.c (Blk.keep hbr hx List.not_mem_nil) 1
          have c2 := fun w' (hx : Ext [] wr w') => Blk.c (Blk.keep hbr hx List.not_mem_nil) 2
          simp only [List.getElem?_cons_zero, List.getElem?_cons_succ] at c1 c2
          have HGq : Hid (g ≠ wq) := Hid.of (fun e => hq0.2.2 (by rw [← e]; simp [vblocks]))
          have HL0 : Hid (lenAt3 wr wq = len) := Hid.of (lenAt3_of c3)
          have HRd := Hid.of hRd
          have HLen := Hid.of hlen
          have HCD := Hid.of cD
          have HFi := Hid.of hfi2
          clear hbr hgw hSt hRd hS hlen cD hfi2
          go_upto_region 16 with fail
          have cD := HCD.out
          refine wp_region_stepsm [69, 70, 71, 72, 73, 74, 75, 76, 77, 78, 79] 9 (rg16Φ wq q first) (rg16ΦT wq q first) (fun v w => v = .int .i64 0 ∧ DropMid w0 wr w wq b q first first2 (.slice (some ⟨g, off, none⟩) len cap) all [g]) (fun v n y => match n with | 10 => y = .bool false | _ => True) (by kernel_rfl) (by kernel_rfl) (fun n y w w' h hx => h) (fun n y w' hn h => by unfold rg16Φ at h; unfold rg16ΦT; split at h <;> first | exact h | trivial) ?hst_16 ?hend_16
          case hst_16 =>
            refine ⟨?f0_16, ?f1_16, ?f2_16, ?f3_16, ?f4_16, ?f5_16, ?f6_16, ?f7_16, ?f8_16, ?f9_16, ?f10_16, trivial⟩
            case f0_16 =>
              refine (if_pos (by decide)).mpr ?_
              intro g w' hx hd
              refine op_run rfl ?_
              generalize hA : mkAct _ _ g = A
              have h5 : A.tmps[5]?.getD undef = .pointer (some ⟨wq, 0, none⟩) := by rw [← hA]; exact mkAct_out2 _ _ _ _ _ rfl rfl
              refine step_val (v := .pointer (some ⟨wq, 0, none⟩)) (w' := w') ?_ ⟨_, rfl, Ext.refl _ _, rfl⟩
              simp [execOp, h5, Result.andThen, go_sem]
            case f1_16 =>
              refine (if_pos (by decide)).mpr ?_
              intro g w' hx hd
              refine op_run rfl ?_
              have e69 : g 69 = .pointer (some ⟨wq, 0, none⟩) := hd ⟨0, .data⟩ (by simp) rfl
              generalize hA : mkAct _ _ g = A
              have h69 : A.tmps[69]?.getD undef = .pointer (some ⟨wq, 0, none⟩) := by rw [← hA, mkAct_in2 _ _ _ _ rfl rfl]; exact e69
              refine step_val (v := .pointer (some ⟨wq, 0, none⟩)) (w' := w') ?_ ⟨_, rfl, Ext.refl _ _, rfl⟩
              simp [execOp, h69, Result.andThen, go_sem]
            case f2_16 =>
              refine (if_pos (by decide)).mpr ?_
              intro g w' hx hd
              refine op_run rfl ?_
              have e70 : g 70 = .pointer (some ⟨wq, 0, none⟩) := hd ⟨1, .data⟩ (by simp) rfl
              generalize hA : mkAct _ _ g = A
              have h70 : A.tmps[70]?.getD undef = .pointer (some ⟨wq, 0, none⟩) := by rw [← hA, mkAct_in2 _ _ _ _ rfl rfl]; exact e70
              refine step_val (v := .pointer (some ⟨wq, 1, none⟩)) (w' := w') ?_ ⟨_, rfl, Ext.refl _ _, rfl⟩
              simp [execOp, h70, Result.andThen, go_sem]
            case f3_16 =>
              refine (if_pos (by decide)).mpr ?_
              intro g w' hx hd
              refine op_run rfl ?_
              have e71 : g 71 = .pointer (some ⟨wq, 1, none⟩) := hd ⟨2, .data⟩ (by simp) rfl
              generalize hA : mkAct _ _ g = A
              have h71 : A.tmps[71]?.getD undef = .pointer (some ⟨wq, 1, none⟩) := by rw [← hA, mkAct_in2 _ _ _ _ rfl rfl]; exact e71
              have c := c1 w' hx
              refine step_val (v := .pointer (some ⟨q, 0, none⟩)) (w' := w') ?_ ⟨_, rfl, Ext.refl _ _, rfl⟩
              simp [execOp, h71, c, Result.andThen, go_sem]
            case f4_16 =>
              refine (if_pos (by decide)).mpr ?_
              intro g w' hx hd
              refine op_run rfl ?_
              generalize hA : mkAct _ _ g = A
              have h5 : A.tmps[5]?.getD undef = .pointer (some ⟨wq, 0, none⟩) := by rw [← hA]; exact mkAct_out2 _ _ _ _ _ rfl rfl
              refine step_val (v := .pointer (some ⟨wq, 0, none⟩)) (w' := w') ?_ ⟨_, rfl, Ext.refl _ _, rfl⟩
              simp [execOp, h5, Result.andThen, go_sem]
            case f5_16 =>
              refine (if_pos (by decide)).mpr ?_
              intro g w' hx hd
              refine op_run rfl ?_
              have e73 : g 73 = .pointer (some ⟨wq, 0, none⟩) := hd ⟨4, .data⟩ (by simp) rfl
              generalize hA : mkAct _ _ g = A
              have h73 : A.tmps[73]?.getD undef = .pointer (some ⟨wq, 0, none⟩) := by rw [← hA, mkAct_in2 _ _ _ _ rfl rfl]; exact e73
              refine step_val (v := .pointer (some ⟨wq, 0, none⟩)) (w' := w') ?_ ⟨_, rfl, Ext.refl _ _, rfl⟩
              simp [execOp, h73, Result.andThen, go_sem]
            case f6_16 =>
              refine (if_pos (by decide)).mpr ?_
              intro g w' hx hd
              refine op_run rfl ?_
              have e74 : g 74 = .pointer (some ⟨wq, 0, none⟩) := hd ⟨5, .data⟩ (by simp) rfl
              generalize hA : mkAct _ _ g = A
              have h74 : A.tmps[74]?.getD undef = .pointer (some ⟨wq, 0, none⟩) := by rw [← hA, mkAct_in2 _ _ _ _ rfl rfl]; exact e74
              refine step_val (v := .pointer (some ⟨wq, 2, none⟩)) (w' := w') ?_ ⟨_, rfl, Ext.refl _ _, rfl⟩
              simp [execOp, h74, Result.andThen, go_sem]
            case f7_16 =>
              refine (if_pos (by decide)).mpr ?_
              intro g w' hx hd
              refine op_run rfl ?_
              have e75 : g 75 = .pointer (some ⟨wq, 2, none⟩) := hd ⟨6, .data⟩ (by simp) rfl
              generalize hA : mkAct _ _ g = A
              have h75 : A.tmps[75]?.getD undef = .pointer (some ⟨wq, 2, none⟩) := by rw [← hA, mkAct_in2 _ _ _ _ rfl rfl]; exact e75
              have c := c2 w' hx
              refine step_val (v := .int .i64 first) (w' := w') ?_ ⟨_, rfl, Ext.refl _ _, rfl⟩
              simp [execOp, h75, c, Result.andThen, go_sem]
            case f8_16 =>
              refine (if_pos (by decide)).mpr ?_
              intro g w' hx hd
              refine op_run rfl ?_
              have e76 : g 76 = .int .i64 first := hd ⟨7, .data⟩ (by simp) rfl
              generalize hA : mkAct _ _ g = A
              have h76 : A.tmps[76]?.getD undef = .int .i64 first := by rw [← hA, mkAct_in2 _ _ _ _ rfl rfl]; exact e76
              refine step_val (v := .int .i64 (first + 1)) (w' := w') ?_ ⟨_, rfl, Ext.refl _ _, rfl⟩
              simp [execOp, h76, Result.andThen, go_sem]
              exact IntWalk.i64_in _ ⟨by omega, by omega⟩
            case f9_16 =>
              refine (if_neg (by decide)).mpr ((if_pos rfl).mpr ?_)
              intro g w' hx hd
              refine op_run rfl ?_
              have e72 : g 72 = .pointer (some ⟨q, 0, none⟩) := hd 3 (by decide)
              have e77 : g 77 = .int .i64 (first + 1) := hd 8 (by decide)
              generalize hA : mkAct _ _ g = A
              have h72 : A.tmps[72]?.getD undef = .pointer (some ⟨q, 0, none⟩) := by rw [← hA, mkAct_in2 _ _ _ _ rfl rfl]; exact e72
              have h77 : A.tmps[77]?.getD undef = .int .i64 (first + 1) := by rw [← hA, mkAct_in2 _ _ _ _ rfl rfl]; exact e77
              refine mid_k (fun K hK => ?_)
              go_simp
              refine (cD w' hx).mono ?_
              rintro e w2 ⟨rfl, hD2⟩
              exact hK (.int .i64 0) w2 ⟨rfl, hD2⟩
            case f10_16 =>
              refine (if_neg (by decide)).mpr ((if_neg (by decide)).mpr ?_)
              intro g v w' hM hT hv hd
              refine op_run rfl ?_
              obtain ⟨rfl, -⟩ := hM
              have e78 := hv (Option.some_ne_none _)
              replace e78 : g 78 = _ := e78
              generalize hA : mkAct _ _ g = A
              have h78 : A.tmps[78]?.getD undef = g 78 := by rw [← hA]; exact mkAct_in2 _ _ _ _ rfl rfl
              rw [e78] at h78
              refine step_val (w' := w') ?_ ⟨_, rfl, rfl, rfl⟩
              simp [execOp, h78, tupAt, Result.andThen, go_sem]
          intro g_ v wn hM hT hv hd
          obtain ⟨rfl, hD⟩ := hM
          have e79 : g_ 79 = .bool false := hd 10 (by decide) (by decide)
          clear hd hv hT cD c1 c2 HCD
          unfold mkAct; simp only [List.zipIdx_cons, List.zipIdx_nil, List.map_cons, List.map_nil, Nat.zero_add, Nat.reduceAdd, List.contains_cons, List.contains_nil, Nat.reduceBEq, Bool.or_false, Bool.or_true, ↓reduceIte, Bool.false_eq_true]
          rw [e79]
          clear e79 c3
          have d2 : wn.cell? ⟨wq, 2, none⟩ = some (.int .i64 first) := Blk.c hD.2.1 2
          have d3 : wn.cell? ⟨wq, 3, none⟩ = some (.slice (some ⟨g, off, none⟩) len cap) := Blk.c hD.2.1 3
          have g2 := Blk.f hD.2.1 2
          have g3 := Blk.f hD.2.1 3
          have HD := Hid.of hD
          clear hD
          by_cases hc1 : cap = 1
          · have hl1 : len = 1 := by omega
            subst hc1
            subst hl1
            have hRn := (HD.out.1.rd HRd.out (by simp [vblocks])).zero rfl
            have hal0 : all.drop 1 = [] := List.eq_nil_of_length_eq_zero (by rw [List.length_drop, ← HLen.out])
            have hfin := HD.out.done (off' := off) (n' := 0) (cap' := 0) (by rw [hal0]; rfl) (by rw [hal0]; exact hRn) HGq.out
            have HF := Hid.of hfin
            have HL3 : Hid (lenAt3 wr wq = 1) := Hid.of HL0.out
            clear hRn hfin HD
            go_wp2
            rw [← HFi.out]
            exact ⟨⟨first2, all.drop 1, _, 0, by rw [hal0, HFi.out]; simp; omega, by rw [hal0]; simp, HF.out.1⟩, by rw [HF.out.2, HL3.out]; omega⟩
          · have hRn := (HD.out.1.rd HRd.out (by simp [vblocks])).back 1 (by omega)
            rw [cells_drop1] at hRn
            have hln : (all.drop 1).length = len - 1 := by rw [List.length_drop, ← HLen.out]
            have hfin := HD.out.done (off' := off + 3) (n' := len - 1) (cap' := cap - 1) hln hRn HGq.out
            have HF := Hid.of hfin
            have HL3 : Hid (lenAt3 wr wq = len) := Hid.of HL0.out
            have HLn := Hid.of hln
            clear hRn hfin HD hln
            go_wp2
            rw [← HFi.out]
            exact ⟨⟨first2, all.drop 1, _, cap - 1, by have := HLn.out; have := HFi.out; omega, by have := HLn.out; omega, HF.out.1⟩, by rw [HF.out.2, HL3.out]; omega⟩
        · have cS := hS.out.shows
          have HL1 := Hid.of hlen
          clear hSt hRd hbr hlen
          go_upto_region 22 with (first
            | (go_at_call 23; (with_reducible refine cS.mono ?_); rintro e w20 ⟨rfl, hx20⟩; have HS20 := Hid.of (hS.out.keep hx20); clear hx20 cS))
          obtain ⟨hSt, hRd⟩ := HS20.out
          obtain ⟨O1, hO1⟩ : ∃ x, x = vblocks (.slice a all.length cap) ++ [] := ⟨_, rfl⟩
          have HRd := Hid.of hRd
          have HO1 := Hid.of hO1
          rw [← hO1] at hSt
          have hb20 := hSt.blk
          have c0 := fun w' (hx : Ext [] w20 w') => Blk.c (Blk.keep hb20 hx List.not_mem_nil) 0
          have c2 := fun w' (hx : Ext [] w20 w') => Blk.c (Blk.keep hb20 hx List.not_mem_nil) 2
          simp only [List.getElem?_cons_zero, List.getElem?_cons_succ] at c0 c2
          have cO : ∀ w', Ext [] w20 w' → Calls Try.prog 20 #[.pointer (some ⟨b, 0, none⟩), .int .i64 3, .int .i64 8, .int .i64 first] w' fun e w2 => ∃ q', e = .returned (.tuple #[.pointer (some ⟨q', 0, none⟩), .int .i64 0]) ∧ OpenMid w0 w20 w2 wq b q q' first (.slice a all.length cap) all O1 := by
            intro w' hx
            refine (hSt.keep hx).openc.mono ?_
            rintro e w2 ⟨q', he, hk, hb, hf⟩
            exact ⟨q', he, hk.from hx, hb, hf⟩
          obtain ⟨len, hlen⟩ : ∃ x, x = all.length := ⟨_, rfl⟩
          rw [← hlen] at cO
          have HLen := Hid.of hlen
          clear hRd hO1 hb20 hSt hlen c3 hS
          refine wp_region_stepsm [99, 100, 101, 102, 103, 104, 105, 106, 107, 98, 108, 109, 8, 9] 8 (rg22Φ wq b first) (rg22ΦT wq b first) (fun v w => ∃ q', v = .tuple #[.pointer (some ⟨q', 0, none⟩), .int .i64 0] ∧ OpenMid w0 w20 w wq b q q' first (.slice a len cap) all O1) (fun v n y => match n with | 9 => y = v | 10 => y = tupAt v 0 | 11 => y = tupAt v 1 | 12 => y = tupAt v 0 | 13 => y = tupAt v 1 | _ => True) (by kernel_rfl) (by kernel_rfl) (fun n y w w' h hx => h) (fun n y w' hn h => by unfold rg22Φ at h; unfold rg22ΦT; split at h <;> first | exact h | trivial) ?hst_22 ?hend_22
          case hst_22 =>
            refine ⟨?f0_22, ?f1_22, ?f2_22, ?f3_22, ?f4_22, ?f5_22, ?f6_22, ?f7_22, ?f8_22, ?f9_22, ?f10_22, ?f11_22, ?f12_22, ?f13_22, trivial⟩
            case f0_22 =>
              refine (if_pos (by decide)).mpr ?_
              intro g w' hx hd
              refine op_run rfl ?_
              generalize hA : mkAct _ _ g = A
              have h5 : A.tmps[5]?.getD undef = .pointer (some ⟨wq, 0, none⟩) := by rw [← hA]; exact mkAct_out2 _ _ _ _ _ rfl rfl
              refine step_val (v := .pointer (some ⟨wq, 0, none⟩)) (w' := w') ?_ ⟨_, rfl, Ext.refl _ _, rfl⟩
              simp [execOp, h5, Result.andThen, go_sem]
            case f1_22 =>
              refine (if_pos (by decide)).mpr ?_
              intro g w' hx hd
              refine op_run rfl ?_
              have e99 : g 99 = .pointer (some ⟨wq, 0, none⟩) := hd ⟨0, .data⟩ (by simp) rfl
              generalize hA : mkAct _ _ g = A
              have h99 : A.tmps[99]?.getD undef = .pointer (some ⟨wq, 0, none⟩) := by rw [← hA, mkAct_in2 _ _ _ _ rfl rfl]; exact e99
              refine step_val (v := .pointer (some ⟨wq, 0, none⟩)) (w' := w') ?_ ⟨_, rfl, Ext.refl _ _, rfl⟩
              simp [execOp, h99, Result.andThen, go_sem]
            case f2_22 =>
              refine (if_pos (by decide)).mpr ?_
              intro g w' hx hd
              refine op_run rfl ?_
              have e100 : g 100 = .pointer (some ⟨wq, 0, none⟩) := hd ⟨1, .data⟩ (by simp) rfl
              generalize hA : mkAct _ _ g = A
              have h100 : A.tmps[100]?.getD undef = .pointer (some ⟨wq, 0, none⟩) := by rw [← hA, mkAct_in2 _ _ _ _ rfl rfl]; exact e100
              refine step_val (v := .pointer (some ⟨wq, 0, none⟩)) (w' := w') ?_ ⟨_, rfl, Ext.refl _ _, rfl⟩
              simp [execOp, h100, Result.andThen, go_sem]
            case f3_22 =>
              refine (if_pos (by decide)).mpr ?_
              intro g w' hx hd
              refine op_run rfl ?_
              have e101 : g 101 = .pointer (some ⟨wq, 0, none⟩) := hd ⟨2, .data⟩ (by simp) rfl
              generalize hA : mkAct _ _ g = A
              have h101 : A.tmps[101]?.getD undef = .pointer (some ⟨wq, 0, none⟩) := by rw [← hA, mkAct_in2 _ _ _ _ rfl rfl]; exact e101
              have c := c0 w' hx
              refine step_val (v := .pointer (some ⟨b, 0, none⟩)) (w' := w') ?_ ⟨_, rfl, Ext.refl _ _, rfl⟩
              simp [execOp, h101, c, Result.andThen, go_sem]
            case f4_22 =>
              refine (if_pos (by decide)).mpr ?_
              intro g w' hx hd
              refine op_run rfl ?_
              generalize hA : mkAct _ _ g = A
              have h5 : A.tmps[5]?.getD undef = .pointer (some ⟨wq, 0, none⟩) := by rw [← hA]; exact mkAct_out2 _ _ _ _ _ rfl rfl
              refine step_val (v := .pointer (some ⟨wq, 0, none⟩)) (w' := w') ?_ ⟨_, rfl, Ext.refl _ _, rfl⟩
              simp [execOp, h5, Result.andThen, go_sem]
            case f5_22 =>
              refine (if_pos (by decide)).mpr ?_
              intro g w' hx hd
              refine op_run rfl ?_
              have e103 : g 103 = .pointer (some ⟨wq, 0, none⟩) := hd ⟨4, .data⟩ (by simp) rfl
              generalize hA : mkAct _ _ g = A
              have h103 : A.tmps[103]?.getD undef = .pointer (some ⟨wq, 0, none⟩) := by rw [← hA, mkAct_in2 _ _ _ _ rfl rfl]; exact e103
              refine step_val (v := .pointer (some ⟨wq, 0, none⟩)) (w' := w') ?_ ⟨_, rfl, Ext.refl _ _, rfl⟩
              simp [execOp, h103, Result.andThen, go_sem]
            case f6_22 =>
              refine (if_pos (by decide)).mpr ?_
              intro g w' hx hd
              refine op_run rfl ?_
              have e104 : g 104 = .pointer (some ⟨wq, 0, none⟩) := hd ⟨5, .data⟩ (by simp) rfl
              generalize hA : mkAct _ _ g = A
              have h104 : A.tmps[104]?.getD undef = .pointer (some ⟨wq, 0, none⟩) := by rw [← hA, mkAct_in2 _ _ _ _ rfl rfl]; exact e104
              refine step_val (v := .pointer (some ⟨wq, 2, none⟩)) (w' := w') ?_ ⟨_, rfl, Ext.refl _ _, rfl⟩
              simp [execOp, h104, Result.andThen, go_sem]
            case f7_22 =>
              refine (if_pos (by decide)).mpr ?_
              intro g w' hx hd
              refine op_run rfl ?_
              have e105 : g 105 = .pointer (some ⟨wq, 2, none⟩) := hd ⟨6, .data⟩ (by simp) rfl
              generalize hA : mkAct _ _ g = A
              have h105 : A.tmps[105]?.getD undef = .pointer (some ⟨wq, 2, none⟩) := by rw [← hA, mkAct_in2 _ _ _ _ rfl rfl]; exact e105
              have c := c2 w' hx
              refine step_val (v := .int .i64 first) (w' := w') ?_ ⟨_, rfl, Ext.refl _ _, rfl⟩
              simp [execOp, h105, c, Result.andThen, go_sem]
            case f8_22 =>
              refine (if_neg (by decide)).mpr ((if_pos rfl).mpr ?_)
              intro g w' hx hd
              refine op_run rfl ?_
              have e102 : g 102 = .pointer (some ⟨b, 0, none⟩) := hd 3 (by decide)
              have e106 : g 106 = .int .i64 first := hd 7 (by decide)
              generalize hA : mkAct _ _ g = A
              have h102 : A.tmps[102]?.getD undef = .pointer (some ⟨b, 0, none⟩) := by rw [← hA, mkAct_in2 _ _ _ _ rfl rfl]; exact e102
              have h106 : A.tmps[106]?.getD undef = .int .i64 first := by rw [← hA, mkAct_in2 _ _ _ _ rfl rfl]; exact e106
              refine mid_k (fun K hK => ?_)
              go_simp
              refine (cO w' hx).mono ?_
              rintro e w2 ⟨q', rfl, hO2⟩
              exact hK (.tuple #[.pointer (some ⟨q', 0, none⟩), .int .i64 0]) w2 ⟨q', rfl, hO2⟩
            case f9_22 =>
              refine (if_neg (by decide)).mpr ((if_neg (by decide)).mpr ?_)
              intro g v w' hM hT hv hd
              refine op_run rfl ?_
              obtain ⟨q', rfl, -⟩ := hM
              have e107 := hv (Option.some_ne_none _)
              replace e107 : g 107 = _ := e107
              generalize hA : mkAct _ _ g = A
              have h107 : A.tmps[107]?.getD undef = g 107 := by rw [← hA]; exact mkAct_in2 _ _ _ _ rfl rfl
              rw [e107] at h107
              refine step_val (w' := w') ?_ ⟨_, rfl, rfl, rfl⟩
              simp [execOp, h107, tupAt, Result.andThen, go_sem]
            case f10_22 =>
              refine (if_neg (by decide)).mpr ((if_neg (by decide)).mpr ?_)
              intro g v w' hM hT hv hd
              refine op_run rfl ?_
              obtain ⟨q', rfl, -⟩ := hM
              have e98 := hd ⟨9, .data⟩ (by simp) rfl (by decide)
              replace e98 : g 98 = _ := e98
              generalize hA : mkAct _ _ g = A
              have h98 : A.tmps[98]?.getD undef = g 98 := by rw [← hA]; exact mkAct_in2 _ _ _ _ rfl rfl
              rw [e98] at h98
              refine step_val (w' := w') ?_ ⟨_, rfl, rfl, rfl⟩
              simp [execOp, h98, tupAt, Result.andThen, go_sem]
            case f11_22 =>
              refine (if_neg (by decide)).mpr ((if_neg (by decide)).mpr ?_)
              intro g v w' hM hT hv hd
              refine op_run rfl ?_
              obtain ⟨q', rfl, -⟩ := hM
              have e98 := hd ⟨9, .data⟩ (by simp) rfl (by decide)
              replace e98 : g 98 = _ := e98
              generalize hA : mkAct _ _ g = A
              have h98 : A.tmps[98]?.getD undef = g 98 := by rw [← hA]; exact mkAct_in2 _ _ _ _ rfl rfl
              rw [e98] at h98
              refine step_val (w' := w') ?_ ⟨_, rfl, rfl, rfl⟩
              simp [execOp, h98, tupAt, Result.andThen, go_sem]
            case f12_22 =>
              refine (if_neg (by decide)).mpr ((if_neg (by decide)).mpr ?_)
              intro g v w' hM hT hv hd
              refine op_run rfl ?_
              obtain ⟨q', rfl, -⟩ := hM
              have e108 := hd ⟨10, .data⟩ (by simp) rfl (by decide)
              replace e108 : g 108 = _ := e108
              generalize hA : mkAct _ _ g = A
              have h108 : A.tmps[108]?.getD undef = g 108 := by rw [← hA]; exact mkAct_in2 _ _ _ _ rfl rfl
              rw [e108] at h108
              refine step_val (w' := w') ?_ ⟨_, rfl, rfl, rfl⟩
              simp [execOp, h108, tupAt, Result.andThen, go_sem]
            case f13_22 =>
              refine (if_neg (by decide)).mpr ((if_neg (by decide)).mpr ?_)
              intro g v w' hM hT hv hd
              refine op_run rfl ?_
              obtain ⟨q', rfl, -⟩ := hM
              have e109 := hd ⟨11, .data⟩ (by simp) rfl (by decide)
              replace e109 : g 109 = _ := e109
              generalize hA : mkAct _ _ g = A
              have h109 : A.tmps[109]?.getD undef = g 109 := by rw [← hA]; exact mkAct_in2 _ _ _ _ rfl rfl
              rw [e109] at h109
              refine step_val (w' := w') ?_ ⟨_, rfl, rfl, rfl⟩
              simp [execOp, h109, tupAt, Result.andThen, go_sem]
          intro g v wn hM hT hv hd
          obtain ⟨q', rfl, hO⟩ := hM
          have e8 : g 8 = .pointer (some ⟨q', 0, none⟩) := hd 12 (by decide) (by decide)
          have e9 : g 9 = .int .i64 0 := hd 13 (by decide) (by decide)
          clear hd hv hT cO c0 c2
          unfold mkAct; simp only [List.zipIdx_cons, List.zipIdx_nil, List.map_cons, List.map_nil, Nat.zero_add, Nat.reduceAdd, List.contains_cons, List.contains_nil, Nat.reduceBEq, Bool.or_false, Bool.or_true, ↓reduceIte, Bool.false_eq_true]
          rw [e8, e9]
          clear e8 e9
          have d1 : wn.cell? ⟨wq, 1, none⟩ = some (.pointer (some ⟨q, 0, none⟩)) := Blk.c hO.2.1 1
          have g1 := Blk.f hO.2.1 1
          have hx26 : Ext [wq] wn (wn.setCell ⟨wq, 1, none⟩ (.pointer (some ⟨q', 0, none⟩))) := (Ext.refl [wq] wn).setCell (.inl (by simp)) _
          have hSt26 := (hO.2.2 _ _ _ hx26 (Blk.set hO.2.1 1 (.pointer (some ⟨q', 0, none⟩)))).1
          have hRS26 : RSt w0 (wn.setCell ⟨wq, 1, none⟩ (.pointer (some ⟨q', 0, none⟩))) wq b q' first (.slice none 0 0) all [] a cap := by
            refine ⟨by rw [← HO1.out, ← HLen.out]; exact hSt26, ((hO.1.rd HRd.out (fun z hz => by rw [HO1.out]; simp [hz])).keep hx26 (fun k hk hm => ?_))⟩
            have := hSt26.new0.2.2
            simp at hm
            subst hm
            exact this (by rw [HO1.out]; simp [hk])
          have cS2 := hRS26.shows
          have HRS26 := Hid.of hRS26
          clear hO hx26 hSt26 hRS26
          go_wp2_with (first
            | (go_at_call 23; (with_reducible refine cS2.mono ?_); rintro e w27 ⟨rfl, hx27⟩; have HS27 := Hid.of (HRS26.out.keep hx27); clear hx27 cS2))
          go_wp2
          have hxx := HXi.out.1
          have hll := HLen.out
          have hl1 := HL1.out
          exact ⟨⟨k + 1, first, all, q', a, cap, by congr 1, by omega, by omega, by omega, HS27⟩, by simp [intOf]; omega⟩
    · have cx := hS.out.1.ext
      have HCx := Hid.of cx
      clear cx
      go_wp2
      go_ret
      exact ⟨rfl, HCx.out⟩
end Go.Proofs.Ytmjgbkepngeckaa
