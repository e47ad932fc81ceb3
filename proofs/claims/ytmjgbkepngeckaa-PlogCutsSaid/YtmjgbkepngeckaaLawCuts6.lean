/- PlogCuts: the walk. (Printed by wip/gen_cuts.py.) -/
import Derived.Test.YtmjgbkepngeckaaAgain6
namespace Go.Proofs.Ytmjgbkepngeckaa
open Go.RowKit
set_option linter.unusedVariables false
set_option linter.unusedSimpArgs false
attribute [local go_sem] i64_and3 i64_and7 i64_and255

def cEnt (j : Nat) : Ent := ⟨(j : Int) + 1, 1, [111, 108, 100]⟩
def cList (k : Nat) : List Ent := (List.range k).map cEnt
theorem cList_len (k : Nat) : (cList k).length = k := by simp [cList]
theorem cList_succ (k : Nat) : cList (k + 1) = cList k ++ [cEnt k] := by simp [cList, List.range_succ]
theorem chkE_of (f : Nat → Ent) : ∀ (k m : Nat) (i : Int), (∀ j, m ≤ j → j < m + k → (f j).idx = i + ((j - m : Nat) : Int) ∧ ¬ (f j).bad) → chkE i ((List.range' m k).map f) = 0 := by
  intro k
  induction k with
  | zero => intro m i _; rfl
  | succ k ih =>
    intro m i h
    rw [List.range'_succ, List.map_cons]
    unfold chkE
    obtain ⟨h1, h2⟩ := h m (Nat.le_refl _) (by omega)
    rw [if_neg (fun g => g (by rw [h1]; simp)), if_neg h2]
    refine ih (m + 1) (i + 1) fun j h3 h4 => ?_
    obtain ⟨h5, h6⟩ := h j (by omega) (by omega)
    exact ⟨by rw [h5]; omega, h6⟩
theorem cEnt_ok (j : Nat) (h : j ≤ 1000) : ¬ (cEnt j).bad ∧ (cEnt j).i64 := by
  refine ⟨?_, ?_⟩
  · unfold Ent.bad cEnt
    simp
  · exact ent_i64 (by omega) (by omega) (by omega) (by omega) (by simp)
theorem cList_app (N : Nat) (h : N ≤ 8) : appE8 1 [] (cList N) = 0 ∧ appA8 1 [] (cList N) = cList N := by
  have h0 : appE8 1 [] (cList N) = 0 := by
    unfold appE8
    rw [cList_len, if_neg (by simp; omega)]
    have := chkE_of cEnt N 0 1 (fun j _ h2 => ⟨by show (j : Int) + 1 = _; omega, (cEnt_ok j (by omega)).1⟩)
    rw [cList, List.range_eq_range']
    exact this
  exact ⟨h0, by unfold appA8; rw [if_pos h0, List.nil_append]⟩
def cu24Φ (w24 : World) (wq q : Nat) (xi : Int) (n : Nat) (y : Value) (w : World) : Prop :=
  match n with
  | 0 => y = .pointer (some ⟨wq, 0, none⟩)
  | 1 => y = .pointer (some ⟨wq, 0, none⟩)
  | 2 => y = .pointer (some ⟨wq, 1, none⟩)
  | 3 => y = .pointer (some ⟨q, 0, none⟩)
  | 4 => y = .agg #[.int .i64 xi, .int .i64 2, .string ⟨#[110, 101, 119]⟩]
  | 5 => ∃ z, y = .slice (some ⟨z, 0, none⟩) 1 1 ∧ w24.heap.size ≤ z ∧ Blk w z 37 [.int .i64 xi, .int .i64 2, .string ⟨#[110, 101, 119]⟩]
  | _ => True
def cu24ΦT (w24 : World) (wq q : Nat) (xi : Int) (n : Nat) (y : Value) : Prop :=
  match n with
  | 0 => y = .pointer (some ⟨wq, 0, none⟩)
  | 1 => y = .pointer (some ⟨wq, 0, none⟩)
  | 2 => y = .pointer (some ⟨wq, 1, none⟩)
  | 3 => y = .pointer (some ⟨q, 0, none⟩)
  | 4 => y = .agg #[.int .i64 xi, .int .i64 2, .string ⟨#[110, 101, 119]⟩]
  | 5 => True
  | _ => True
def cu26Φ (w26 : World) (xi : Int) (na : Option Addr) (len ncap : Nat) (n : Nat) (y : Value) (w : World) : Prop :=
  match n with
  | 0 => y = .slice na len ncap
  | 1 => y = .slice na len ncap
  | 2 => y = .int .i64 (len)
  | 3 => y = .slice na len ncap
  | 4 => y = .int .i64 (len)
  | 5 => y = .slice na len len
  | 6 => y = .agg #[.int .i64 xi, .int .i64 2, .string ⟨#[110, 101, 119]⟩]
  | 7 => ∃ z, y = .slice (some ⟨z, 0, none⟩) 1 1 ∧ w26.heap.size ≤ z ∧ Blk w z 37 [.int .i64 xi, .int .i64 2, .string ⟨#[110, 101, 119]⟩]
  | _ => True
def cu26ΦT (w26 : World) (xi : Int) (na : Option Addr) (len ncap : Nat) (n : Nat) (y : Value) : Prop :=
  match n with
  | 0 => y = .slice na len ncap
  | 1 => y = .slice na len ncap
  | 2 => y = .int .i64 (len)
  | 3 => y = .slice na len ncap
  | 4 => y = .int .i64 (len)
  | 5 => y = .slice na len len
  | 6 => y = .agg #[.int .i64 xi, .int .i64 2, .string ⟨#[110, 101, 119]⟩]
  | 7 => True
  | _ => True
set_option maxRecDepth 100000 in
set_option maxHeartbeats 12800000 in
theorem pcuts_any {w0 : World} (n : Int) (_ : -9223372036854775808 ≤ n ∧ n ≤ 9223372036854775807) (from_ : Int) (_ : -9223372036854775808 ≤ from_ ∧ from_ ≤ 9223372036854775807) (more : Int) (_ : -9223372036854775808 ≤ more ∧ more ≤ 9223372036854775807)
    (fa : Option Addr) (fl fc : Nat) (fs : List Int) (hF : Rd w0 1 (.slice fa fl fc) fl (fs.map (Value.int .i64))) (_ : ∀ x ∈ fs, (Lit.int .i64 x).wf = true) :
    Calls Try.prog 9 #[.int .i64 n, .int .i64 from_, .int .i64 more, .slice fa fl fc] w0 fun e w' => e = .returned (.bool true) ∧ Ext [] w0 w' := by
  have hN0 : 0 ≤ n % 8 := Int.emod_nonneg _ (by decide)
  have hN1 : n % 8 < 8 := Int.emod_lt_of_pos _ (by decide)
  have hB0 : 0 ≤ from_ % 256 := Int.emod_nonneg _ (by decide)
  have hB1 : from_ % 256 < 256 := Int.emod_lt_of_pos _ (by decide)
  obtain ⟨N, hN⟩ : ∃ N : Nat, 1 + n % 8 = (N : Int) := ⟨(1 + n % 8).toNat, by omega⟩
  have hNl : 1 ≤ N ∧ N ≤ 8 := by omega
  obtain ⟨hNa, hNb⟩ := hNl
  have hNz : ((N : Int) == 0) = false := by simp; omega
  obtain ⟨J, hJ⟩ : ∃ J : Nat, from_ % 256 % N = (J : Int) := ⟨(from_ % 256 % N).toNat, by
    have := Int.emod_nonneg (from_ % 256) (show (N : Int) ≠ 0 by omega); omega⟩
  have hJN : J < N := by
    have := Int.emod_lt_of_pos (from_ % 256) (show (0 : Int) < N by omega)
    omega
  obtain ⟨M, hM4⟩ : ∃ M : Nat, more % 4 = (M : Int) := ⟨(more % 4).toNat, by have := Int.emod_nonneg more (show (4 : Int) ≠ 0 by decide); omega⟩
  have hMl : M < 4 := by have := Int.emod_lt_of_pos more (show (0 : Int) < 4 by decide); omega
  have HF := Hid.of hF
  have hfl : fl ≤ 9223372036854775807 := by have := hF.len; unfold maxLen at this; omega
  clear hF
  go_enter Try.func9, Try.ntmps9
  go_upto_region 3 with (first
    | (go_at_call 11; (with_reducible refine (head6_any _).mono ?_); rintro e w1 ⟨rfl, hx1⟩; have HX1 := Hid.of hx1; clear hx1))
  by_cases hf20 : 20 < (fl : Int)
  · go_wp2
    go_ret
    exact ⟨rfl, HX1.out⟩
  · have cn := neww w0 w1 HX1.out [] (by simp)
    go_upto_region 9 with (first
      | (go_at_call 13; (with_reducible refine cn.mono ?_); intro e w2 hq; obtain ⟨wq, b, q, rfl, hst, hk⟩ := NewW.st hq; have HS2 := Hid.of hst; clear hq hst hk cn))
    go_upto_region 11 with fail
    go_loopw [10, 11] (fun u10 u11 wr => ∃ (k : Nat), u11 = .int .i64 ((k : Int) + 1) ∧ k ≤ N ∧ Hid (Own wr 37 3 u10 k ((cList k).flatMap Ent.cells)) ∧ Hid (∀ z ∈ vblocks u10, w2.heap.size ≤ z) ∧ Hid (Ext [] w2 wr)) (fun _ u11 _ => N + 1 - (intOf u11).toNat)
    case atStart => exact ⟨0, rfl, by omega, Own.lit w2 #[] _ 3 0 rfl (by omega), fun z hz => by simp [vblocks] at hz; omega, (Ext.refl _ _).alloc _⟩
    case round =>
      obtain ⟨k, rfl, hk, hO, hV, hX⟩ := hrel
      by_cases hkN : k < N
      · have HM : Hid (cList (k + 1) = cList k ++ [⟨(k : Int) + 1, 1, [111, 108, 100]⟩]) := Hid.of (cList_succ k)
        have hO1 := hO.out.alloc (.cells #[.int .i64 ((k : Int) + 1), .int .i64 1, .string ⟨#[111, 108, 100]⟩] 37)
        have HX1 := Hid.of (hX.out.alloc (.cells #[.int .i64 ((k : Int) + 1), .int .i64 1, .string ⟨#[111, 108, 100]⟩] 37))
        have HW0 : Hid (w2.heap.size ≤ wr.heap.size) := Hid.of hX.out.size
        have hone : ∀ u ∈ ([⟨(k : Int) + 1, 1, [111, 108, 100]⟩] : List Ent).flatMap Ent.cells, u.oneCell' = true := by
          intro u hu
          simp [Ent.cells] at hu
          rcases hu with rfl | rfl | rfl <;> rfl
        go_wp2_with (refine wpl_append (d := some 36) 37 (.agg #[.int .i64 0, .int .i64 0, .string ByteArray.empty]) 3 32 el_ents u10 k ((cList k).flatMap Ent.cells) ?_ hO1 (.slice (some ⟨wr.heap.size, 0, none⟩) 1 1) 1 ([⟨(k : Int) + 1, 1, [111, 108, 100]⟩].flatMap Ent.cells) ?_ (Rd.lit wr #[.int .i64 ((k : Int) + 1), .int .i64 1, .string ⟨#[111, 108, 100]⟩] 37 3 1 rfl (by unfold maxLen; omega)) hone (by omega) (by unfold maxLen; omega) ?_)
        all_goals try rfl
        intro v' w' ho' hx' hv' _
        have HX2 := Hid.of (HX1.out.trans hx' (fun z hz => .inr (hV.out z hz)))
        have HV2 : Hid (∀ z ∈ vblocks v', w2.heap.size ≤ z) := Hid.of (fun z hz => by rcases hv' with h | h; exact hV.out z (h ▸ hz); exact (by rw [h] at hz; simp at hz; have := HW0.out; omega))
        have HO2 : Hid (Own w' 37 3 v' (k + 1) ((cList (k + 1)).flatMap Ent.cells)) := Hid.of (by rw [HM.out, List.flatMap_append]; exact ho')
        clear hx' hv' ho' hO1 HX1 hone HM HW0 hO hX hV
        go_wp2
        exact ⟨⟨k + 1, by congr 1, by omega, HO2, HV2, HX2⟩, by simp [intOf]; omega⟩
      · obtain rfl : k = N := by omega
        obtain ⟨la, lc, rfl⟩ := Rd.isSlice hO.out.rd
        obtain ⟨g, off, rfl, hgw, hcells⟩ := hO.out.rd.view (by omega)
        have hgl : g < wr.heap.size := by have := hO.out.lt g (by simp [vblocks]); exact this
        have hg2 : w2.heap.size ≤ g := hV.out g (by simp [vblocks])
        have HS3 := Hid.of (HS2.out.add hX.out g hg2 hgl)
        have HRl := Hid.of hO.out.rd
        have hcl := hO.out.rd.len.2.1
        have hma := cList_app k hNb
        have ca := HS3.out.append (cList k) (some ⟨g, off, none⟩) k lc hO.out.rd (by simp [vblocks]) (fun e he => by
          obtain ⟨j, hj, rfl⟩ := List.mem_map.1 he
          exact (cEnt_ok j (by have := List.mem_range.1 hj; omega)).2)
        rw [hma.1, hma.2] at ca
        have cq : wr.cell? ⟨wq, 1, none⟩ = some (.pointer (some ⟨q, 0, none⟩)) := Blk.c HS3.out.blk 1
        clear hma hgw hcells hO hX hV hgl hg2 HS2
        go_upto_region 17 with (first
          | (go_at_call 26; (with_reducible refine ca.mono ?_); rintro e w3 ⟨rfl, h3, hk3⟩; have H3 := Hid.of h3; have HR3 := Hid.of (hk3.rd HRl.out (by simp [vblocks])); clear h3 hk3 ca))
        clear cq HRl HS3
        have cq : w3.cell? ⟨wq, 1, none⟩ = some (.pointer (some ⟨q, 0, none⟩)) := Blk.c H3.out.blk 1
        have cc := H3.out.cutc J (by rw [cList_len]; exact hJN)
        go_upto_region 19 with (first
          | (go_at_call 30; (with_reducible refine cc.mono ?_); rintro e w4 ⟨rfl, h4, hk4⟩; have H4 := Hid.of h4; have HR4 := Hid.of (hk4.rd HR3.out (by simp [vblocks])); clear h4 hk4 cc))
        clear cq H3 HR3
        have hJl : (J : Int) ≤ (lc : Int) := by omega
        have hJl2 : J ≤ lc := by omega
        have hJm : (1 : Int) + (J : Int) - 1 = (J : Int) := by omega
        have hm0 := fun a => map_add0 a
        go_upto_region 21 with fail
        have HN4 : Hid (∃ (na : Option Addr) (ncap : Nat), Value.slice (some ⟨g, off, none⟩) J lc = .slice na ((cList k).take J).length ncap ∧ St w0 w4 wq b q 1 (.slice none 0 0) (.slice none 0 0) ((cList k).take J) (vblocks (.slice na ((cList k).take J).length ncap) ++ []) ∧ Rd w4 3 (.slice na ((cList k).take J).length ncap) ((cList k).take J).length (((cList k).take J).flatMap Ent.cells)) := by
          have hl : ((cList k).take J).length = J := by rw [List.length_take, cList_len]; omega
          refine Hid.of ⟨some ⟨g, off, none⟩, lc, by rw [hl], H4.out.sub (by simp [vblocks]), ?_⟩
          have h1 := HR4.out.front J (by omega)
          rw [hl]
          have h2 : ((cList k).flatMap Ent.cells).take (J * 3) = ((cList k).take J).flatMap Ent.cells := by
            have hdr := List.take_append_drop J (cList k)
            have h3 : (cList k).flatMap Ent.cells = ((cList k).take J).flatMap Ent.cells ++ ((cList k).drop J).flatMap Ent.cells := by rw [← List.flatMap_append, hdr]
            rw [h3, List.take_left' (by rw [flatMap_len _ 3 ecells_len, hl])]
          rw [← h2]
          exact h1
        obtain ⟨now0, hnow0⟩ : ∃ x, x = (cList k).take J := ⟨_, rfl⟩
        have hl0 : now0.length ≤ 8 := by rw [hnow0, List.length_take, cList_len]; omega
        rw [← hnow0] at HN4
        clear hnow0 hJm hm0 hJl hJl2 hcl H4 HR4
        generalize Value.slice (some ⟨g, off, none⟩) J lc = now0v at HN4 ⊢
        go_loopw [12, 13] (fun u12 u13 wr => ∃ (i : Nat) (now : List Ent) (na : Option Addr) (ncap : Nat), u13 = .int .i64 (i : Int) ∧ i ≤ M ∧ u12 = .slice na now.length ncap ∧ now.length ≤ 8 ∧ Hid (St w0 wr wq b q 1 (.slice none 0 0) (.slice none 0 0) now (vblocks (.slice na now.length ncap) ++ [])) ∧ Hid (Rd wr 3 (.slice na now.length ncap) now.length (now.flatMap Ent.cells))) (fun _ u13 _ => M - (intOf u13).toNat)
        case atStart =>
          obtain ⟨na, ncap, h1, h2, h3⟩ := HN4.out
          exact ⟨0, now0, na, ncap, rfl, by omega, h1, hl0, h2, h3⟩
        case round =>
          obtain ⟨i, now, na, ncap, rfl, hi, rfl, hn8, hS, hR⟩ := hrel
          clear HN4
          obtain ⟨len, hlen⟩ : ∃ x, x = now.length := ⟨_, rfl⟩
          rw [← hlen] at hS hR hn8 ⊢
          by_cases hgo : i < M ∧ len < 8
          · obtain ⟨hiM, hl8⟩ := hgo
            have hiM' : (i : Int) < (M : Int) := by omega
            have hl8' : (len : Int) < 8 := by omega
            have hq0 := hS.out.new0
            obtain ⟨xi, hxi⟩ : ∃ x : Int, x = (len : Int) + 1 := ⟨_, rfl⟩
            obtain ⟨E, hE⟩ : ∃ x, x = wr.heap.size := ⟨_, rfl⟩
            obtain ⟨w24, hw24⟩ : ∃ W, W = wr.alloc (.cells #[.int .i64 xi, .int .i64 2, .string ⟨#[110, 101, 119]⟩] 37) := ⟨_, rfl⟩
            have x24 : Ext [] wr w24 := by rw [hw24]; exact (Ext.refl _ _).alloc _
            have hEB : Blk w24 E 37 [.int .i64 xi, .int .i64 2, .string ⟨#[110, 101, 119]⟩] := by rw [hE, hw24]; exact Blk.new wr 37 #[.int .i64 xi, .int .i64 2, .string ⟨#[110, 101, 119]⟩]
            obtain ⟨O1, hO1⟩ : ∃ x, x = vblocks (.slice na len ncap) ++ [] := ⟨_, rfl⟩
            have hSt := hS.out
            rw [← hO1] at hSt
            have hSE := hSt.add x24 E (by omega) hEB.lt
            have hR24 := hR.out.keep x24 (by simp)
            have he0 : appE8 1 now [⟨xi, 2, [110, 101, 119]⟩] = 0 := appE8_next (by omega) (by show xi = 1 + now.length; omega) (by unfold Ent.bad; simp)
            have hea : appA8 1 now [⟨xi, 2, [110, 101, 119]⟩] = now ++ [⟨xi, 2, [110, 101, 119]⟩] := if_pos he0
            have cA := fun w' z (hx : Ext [] w24 w') (hz : w24.heap.size ≤ z) hb => hSE.append1 ⟨xi, 2, [110, 101, 119]⟩ (ent_i64 (by omega) (by omega) (by omega) (by omega) (by simp)) w' z hx hz hb
            rw [he0, hea] at cA
            have hb24 := hSE.blk
            have c1 := fun w' (hx : Ext [] w24 w') => Blk.c (Blk.keep hb24 hx List.not_mem_nil) 1
            simp only [List.getElem?_cons_zero, List.getElem?_cons_succ] at c1
            have cE := fun w' (hx : Ext [] w24 w') => row3 (Blk.keep hEB hx List.not_mem_nil)
            have HEB := Hid.of hEB
            have HR24 := Hid.of hR24
            have HO1 := Hid.of hO1
            have HLen := Hid.of hlen
            have HCA := Hid.of cA
            have HXi := Hid.of hxi
            clear he0 hea hSE hSt hR24 hb24 hEB hO1 x24 hlen hS hR cA
            go_upto_region 24 with fail
            rw [← hxi, ← hE, ← hw24]
            clear hE hw24 hxi
            have cA := HCA.out
            refine wp_region_stepsm [75, 76, 77, 78, 79, 80, 81, 82] 6 (cu24Φ w24 wq q xi) (cu24ΦT w24 wq q xi) (fun v w => v = .int .i64 0 ∧ St w0 w wq b q 1 (.slice none 0 0) (.slice none 0 0) (now ++ [⟨xi, 2, [110, 101, 119]⟩]) (E :: O1) ∧ Kept (E :: O1) w24 w) (fun v n y => match n with | 7 => y = .bool false | _ => True) (by kernel_rfl) (by kernel_rfl) (fun n y w w' h hx => by unfold cu24Φ at h ⊢; split at h; all_goals first | exact h | (obtain ⟨z, h1, h2, h3⟩ := h; exact ⟨z, h1, h2, Blk.keep h3 hx List.not_mem_nil⟩)) (fun n y w' hn h => by unfold cu24Φ at h; unfold cu24ΦT; split at h <;> first | exact h | trivial) ?hst_24 ?hend_24
            case hst_24 =>
              refine ⟨?f0_24, ?f1_24, ?f2_24, ?f3_24, ?f4_24, ?f5_24, ?f6_24, ?f7_24, trivial⟩
              case f0_24 =>
                refine (if_pos (by decide)).mpr ?_
                intro g w' hx hd hb
                refine op_run rfl ?_
                generalize hA : mkAct _ _ g = A
                have h9 : A.tmps[9]?.getD undef = .pointer (some ⟨wq, 0, none⟩) := by rw [← hA]; exact mkAct_out2 _ _ _ _ _ rfl rfl
                refine step_val (v := .pointer (some ⟨wq, 0, none⟩)) (w' := w') ?_ ⟨_, rfl, Ext.refl _ _, rfl⟩
                simp [execOp, h9, Result.andThen, go_sem]
              case f1_24 =>
                refine (if_pos (by decide)).mpr ?_
                intro g w' hx hd hb
                refine op_run rfl ?_
                have e75 : g 75 = .pointer (some ⟨wq, 0, none⟩) := hd ⟨0, .data⟩ (by simp) rfl
                generalize hA : mkAct _ _ g = A
                have h75 : A.tmps[75]?.getD undef = .pointer (some ⟨wq, 0, none⟩) := by rw [← hA, mkAct_in2 _ _ _ _ rfl rfl]; exact e75
                refine step_val (v := .pointer (some ⟨wq, 0, none⟩)) (w' := w') ?_ ⟨_, rfl, Ext.refl _ _, rfl⟩
                simp [execOp, h75, Result.andThen, go_sem]
              case f2_24 =>
                refine (if_pos (by decide)).mpr ?_
                intro g w' hx hd hb
                refine op_run rfl ?_
                have e76 : g 76 = .pointer (some ⟨wq, 0, none⟩) := hd ⟨1, .data⟩ (by simp) rfl
                generalize hA : mkAct _ _ g = A
                have h76 : A.tmps[76]?.getD undef = .pointer (some ⟨wq, 0, none⟩) := by rw [← hA, mkAct_in2 _ _ _ _ rfl rfl]; exact e76
                refine step_val (v := .pointer (some ⟨wq, 1, none⟩)) (w' := w') ?_ ⟨_, rfl, Ext.refl _ _, rfl⟩
                simp [execOp, h76, Result.andThen, go_sem]
              case f3_24 =>
                refine (if_pos (by decide)).mpr ?_
                intro g w' hx hd hb
                refine op_run rfl ?_
                have e77 : g 77 = .pointer (some ⟨wq, 1, none⟩) := hd ⟨2, .data⟩ (by simp) rfl
                generalize hA : mkAct _ _ g = A
                have h77 : A.tmps[77]?.getD undef = .pointer (some ⟨wq, 1, none⟩) := by rw [← hA, mkAct_in2 _ _ _ _ rfl rfl]; exact e77
                have c := c1 w' hx
                refine step_val (v := .pointer (some ⟨q, 0, none⟩)) (w' := w') ?_ ⟨_, rfl, Ext.refl _ _, rfl⟩
                simp [execOp, h77, c, Result.andThen, go_sem]
              case f4_24 =>
                refine (if_pos (by decide)).mpr ?_
                intro g w' hx hd hb
                refine op_run rfl ?_
                generalize hA : mkAct _ _ g = A
                have h14 : A.tmps[14]?.getD undef = .pointer (some ⟨E, 0, none⟩) := by rw [← hA]; exact mkAct_out2 _ _ _ _ _ rfl rfl
                obtain ⟨d0, d1, d2⟩ := cE w' hx
                refine step_val (v := .agg #[.int .i64 xi, .int .i64 2, .string ⟨#[110, 101, 119]⟩]) (w' := w') ?_ ⟨_, rfl, Ext.refl _ _, rfl⟩
                simp [execOp, h14, d0, d1, d2, Result.andThen, go_sem]
              case f5_24 =>
                refine (if_pos (by decide)).mpr ?_
                intro g w' hx hd hb
                refine op_run rfl ?_
                have e79 : g 79 = .agg #[.int .i64 xi, .int .i64 2, .string ⟨#[110, 101, 119]⟩] := hd ⟨4, .data⟩ (by simp) rfl
                generalize hA : mkAct _ _ g = A
                have h79 : A.tmps[79]?.getD undef = .agg #[.int .i64 xi, .int .i64 2, .string ⟨#[110, 101, 119]⟩] := by rw [← hA, mkAct_in2 _ _ _ _ rfl rfl]; exact e79
                refine step_val (v := .slice (some ⟨w'.heap.size, 0, none⟩) 1 1) (w' := w'.alloc (.cells #[.int .i64 xi, .int .i64 2, .string ⟨#[110, 101, 119]⟩] 37)) ?_ ⟨_, rfl, (Ext.refl _ _).alloc _, w'.heap.size, rfl, hx.size, Blk.new w' 37 #[.int .i64 xi, .int .i64 2, .string ⟨#[110, 101, 119]⟩]⟩
                simp [execOp, h79, Result.andThen, go_sem]
              case f6_24 =>
                refine (if_neg (by decide)).mpr ((if_pos rfl).mpr ?_)
                intro g w' hx hd hb
                refine op_run rfl ?_
                obtain ⟨z, e80, hz, hb⟩ := hd 5 (by decide)
                replace e80 : g 80 = _ := e80
                have e78 : g 78 = .pointer (some ⟨q, 0, none⟩) := hd 3 (by decide)
                generalize hA : mkAct _ _ g = A
                have h80 : A.tmps[80]?.getD undef = g 80 := by rw [← hA]; exact mkAct_in2 _ _ _ _ rfl rfl
                rw [e80] at h80
                have h78 : A.tmps[78]?.getD undef = .pointer (some ⟨q, 0, none⟩) := by rw [← hA, mkAct_in2 _ _ _ _ rfl rfl]; exact e78
                refine mid_k (fun K hK => ?_)
                go_simp
                refine (cA w' z hx hz hb).mono ?_
                rintro e w2 ⟨rfl, hs2, hk2⟩
                exact hK (.int .i64 0) w2 ⟨rfl, hs2, hk2⟩
              case f7_24 =>
                refine (if_neg (by decide)).mpr ((if_neg (by decide)).mpr ?_)
                intro g v w' hM hT hv hd
                refine op_run rfl ?_
                obtain ⟨rfl, -, -⟩ := hM
                have e81 := hv (Option.some_ne_none _)
                replace e81 : g 81 = _ := e81
                generalize hA : mkAct _ _ g = A
                have h81 : A.tmps[81]?.getD undef = g 81 := by rw [← hA]; exact mkAct_in2 _ _ _ _ rfl rfl
                rw [e81] at h81
                refine step_val (w' := w') ?_ ⟨_, rfl, rfl, rfl⟩
                simp [execOp, h81, tupAt, Result.andThen, go_sem]
            intro g_ v wn hM hT hv hd
            obtain ⟨rfl, hs25, hk25⟩ := hM
            have e82 : g_ 82 = .bool false := hd 7 (by decide) (by decide)
            clear hd hv hT cA c1 cE HCA
            unfold mkAct; simp only [List.zipIdx_cons, List.zipIdx_nil, List.map_cons, List.map_nil, Nat.zero_add, Nat.reduceAdd, List.contains_cons, List.contains_nil, Nat.reduceBEq, Bool.or_false, Bool.or_true, ↓reduceIte, Bool.false_eq_true]
            rw [e82]
            clear e82
            obtain ⟨w26, hw26⟩ : ∃ W, W = wn := ⟨_, rfl⟩
            rw [← hw26] at hs25 hk25 ⊢
            clear hw26
            have hEB := hk25.blk HEB.out (by simp)
            have hR26 : Rd w26 3 (.slice na len ncap) len (now.flatMap Ent.cells) := hk25.rd HR24.out (fun z hz => by rw [HO1.out]; simp [hz])
            have cE := fun w' (hx : Ext [] w26 w') => row3 (Blk.keep hEB hx List.not_mem_nil)
            obtain ⟨xs, hxs⟩ : ∃ x, x = now.flatMap Ent.cells := ⟨_, rfl⟩
            rw [← hxs] at hR26
            have cR := fun w' (hx : Ext [] w26 w') => hR26.keep hx (by simp)
            have hcap : len ≤ ncap := hR26.len.2.1
            have HS25 := Hid.of hs25
            have HXs := Hid.of hxs
            clear hR26 hEB hs25 hk25 hxs HEB HR24 HO1
            go_upto_region 26 with fail
            refine wp_region_stepsm [83, 84, 85, 86, 87, 88, 89, 90, 91, 12] 8 (cu26Φ w26 xi na len ncap) (cu26ΦT w26 xi na len ncap) (fun v w => ∃ a' cap', v = .slice a' (len + 1) cap' ∧ Rd w 3 (.slice a' (len + 1) cap') (len + 1) (xs ++ [.int .i64 xi, .int .i64 2, .string ⟨#[110, 101, 119]⟩]) ∧ Ext [] w26 w ∧ ∀ z ∈ vblocks (.slice a' (len + 1) cap'), w26.heap.size ≤ z) (fun v n y => match n with | 9 => y = v | _ => True) (by kernel_rfl) (by kernel_rfl) (fun n y w w' h hx => by unfold cu26Φ at h ⊢; split at h; all_goals first | exact h | (obtain ⟨z, h1, h2, h3⟩ := h; exact ⟨z, h1, h2, Blk.keep h3 hx List.not_mem_nil⟩)) (fun n y w' hn h => by unfold cu26Φ at h; unfold cu26ΦT; split at h <;> first | exact h | trivial) ?hst_26 ?hend_26
            case hst_26 =>
              refine ⟨?f0_26, ?f1_26, ?f2_26, ?f3_26, ?f4_26, ?f5_26, ?f6_26, ?f7_26, ?f8_26, ?f9_26, trivial⟩
              case f0_26 =>
                refine (if_pos (by decide)).mpr ?_
                intro g w' hx hd hb
                refine op_run rfl ?_
                have e12 : g 12 = .slice na len ncap := hb 9 (by decide) (by decide) (Option.some_ne_none _)
                generalize hA : mkAct _ _ g = A
                have h12 : A.tmps[12]?.getD undef = .slice na len ncap := by rw [← hA, mkAct_in2 _ _ _ _ rfl rfl]; exact e12
                refine step_val (v := .slice na len ncap) (w' := w') ?_ ⟨_, rfl, Ext.refl _ _, rfl⟩
                simp [execOp, h12, Result.andThen, go_sem]
              case f1_26 =>
                refine (if_pos (by decide)).mpr ?_
                intro g w' hx hd hb
                refine op_run rfl ?_
                have e12 : g 12 = .slice na len ncap := hb 9 (by decide) (by decide) (Option.some_ne_none _)
                generalize hA : mkAct _ _ g = A
                have h12 : A.tmps[12]?.getD undef = .slice na len ncap := by rw [← hA, mkAct_in2 _ _ _ _ rfl rfl]; exact e12
                refine step_val (v := .slice na len ncap) (w' := w') ?_ ⟨_, rfl, Ext.refl _ _, rfl⟩
                simp [execOp, h12, Result.andThen, go_sem]
              case f2_26 =>
                refine (if_pos (by decide)).mpr ?_
                intro g w' hx hd hb
                refine op_run rfl ?_
                have e84 : g 84 = .slice na len ncap := hd ⟨1, .data⟩ (by simp) rfl
                generalize hA : mkAct _ _ g = A
                have h84 : A.tmps[84]?.getD undef = .slice na len ncap := by rw [← hA, mkAct_in2 _ _ _ _ rfl rfl]; exact e84
                refine step_val (v := .int .i64 (len)) (w' := w') ?_ ⟨_, rfl, Ext.refl _ _, rfl⟩
                simp [execOp, h84, Result.andThen, go_sem]
              case f3_26 =>
                refine (if_pos (by decide)).mpr ?_
                intro g w' hx hd hb
                refine op_run rfl ?_
                have e12 : g 12 = .slice na len ncap := hb 9 (by decide) (by decide) (Option.some_ne_none _)
                generalize hA : mkAct _ _ g = A
                have h12 : A.tmps[12]?.getD undef = .slice na len ncap := by rw [← hA, mkAct_in2 _ _ _ _ rfl rfl]; exact e12
                refine step_val (v := .slice na len ncap) (w' := w') ?_ ⟨_, rfl, Ext.refl _ _, rfl⟩
                simp [execOp, h12, Result.andThen, go_sem]
              case f4_26 =>
                refine (if_pos (by decide)).mpr ?_
                intro g w' hx hd hb
                refine op_run rfl ?_
                have e86 : g 86 = .slice na len ncap := hd ⟨3, .data⟩ (by simp) rfl
                generalize hA : mkAct _ _ g = A
                have h86 : A.tmps[86]?.getD undef = .slice na len ncap := by rw [← hA, mkAct_in2 _ _ _ _ rfl rfl]; exact e86
                refine step_val (v := .int .i64 (len)) (w' := w') ?_ ⟨_, rfl, Ext.refl _ _, rfl⟩
                simp [execOp, h86, Result.andThen, go_sem]
              case f5_26 =>
                refine (if_pos (by decide)).mpr ?_
                intro g w' hx hd hb
                refine op_run rfl ?_
                have e83 : g 83 = .slice na len ncap := hd ⟨0, .data⟩ (by simp) rfl
                have e85 : g 85 = .int .i64 (len) := hd ⟨2, .data⟩ (by simp) rfl
                have e87 : g 87 = .int .i64 (len) := hd ⟨4, .data⟩ (by simp) rfl
                generalize hA : mkAct _ _ g = A
                have h83 : A.tmps[83]?.getD undef = .slice na len ncap := by rw [← hA, mkAct_in2 _ _ _ _ rfl rfl]; exact e83
                have h85 : A.tmps[85]?.getD undef = .int .i64 (len) := by rw [← hA, mkAct_in2 _ _ _ _ rfl rfl]; exact e85
                have h87 : A.tmps[87]?.getD undef = .int .i64 (len) := by rw [← hA, mkAct_in2 _ _ _ _ rfl rfl]; exact e87
                refine step_val (v := .slice na len len) (w' := w') ?_ ⟨_, rfl, Ext.refl _ _, rfl⟩
                simp [execOp, hcap, map_add0, h83, h85, h87, Result.andThen, go_sem]
              case f6_26 =>
                refine (if_pos (by decide)).mpr ?_
                intro g w' hx hd hb
                refine op_run rfl ?_
                generalize hA : mkAct _ _ g = A
                have h14 : A.tmps[14]?.getD undef = .pointer (some ⟨E, 0, none⟩) := by rw [← hA]; exact mkAct_out2 _ _ _ _ _ rfl rfl
                obtain ⟨d0, d1, d2⟩ := cE w' hx
                refine step_val (v := .agg #[.int .i64 xi, .int .i64 2, .string ⟨#[110, 101, 119]⟩]) (w' := w') ?_ ⟨_, rfl, Ext.refl _ _, rfl⟩
                simp [execOp, h14, d0, d1, d2, Result.andThen, go_sem]
              case f7_26 =>
                refine (if_pos (by decide)).mpr ?_
                intro g w' hx hd hb
                refine op_run rfl ?_
                have e89 : g 89 = .agg #[.int .i64 xi, .int .i64 2, .string ⟨#[110, 101, 119]⟩] := hd ⟨6, .data⟩ (by simp) rfl
                generalize hA : mkAct _ _ g = A
                have h89 : A.tmps[89]?.getD undef = .agg #[.int .i64 xi, .int .i64 2, .string ⟨#[110, 101, 119]⟩] := by rw [← hA, mkAct_in2 _ _ _ _ rfl rfl]; exact e89
                refine step_val (v := .slice (some ⟨w'.heap.size, 0, none⟩) 1 1) (w' := w'.alloc (.cells #[.int .i64 xi, .int .i64 2, .string ⟨#[110, 101, 119]⟩] 37)) ?_ ⟨_, rfl, (Ext.refl _ _).alloc _, w'.heap.size, rfl, hx.size, Blk.new w' 37 #[.int .i64 xi, .int .i64 2, .string ⟨#[110, 101, 119]⟩]⟩
                simp [execOp, h89, Result.andThen, go_sem]
              case f8_26 =>
                refine (if_neg (by decide)).mpr ((if_pos rfl).mpr ?_)
                intro g w' hx hd hb
                refine op_run rfl ?_
                have e88 : g 88 = .slice na len len := hd 5 (by decide)
                obtain ⟨z, e90, hz, hb⟩ := hd 7 (by decide)
                replace e90 : g 90 = _ := e90
                generalize hA : mkAct _ _ g = A
                have h88 : A.eval (.tmp 88) = .slice na len len := by rw [← hA, mkAct_in _ _ _ _ rfl rfl]; exact e88
                have h90 : A.eval (.tmp 90) = .slice (some ⟨z, 0, none⟩) 1 1 := by rw [← hA, mkAct_in _ _ _ _ rfl rfl]; exact e90
                refine wp_append_full (.tmp 88) (.tmp 90) 33 rfl 37 _ 3 32 el_ents na len xs h88 ((cR w' hx).full) (.slice (some ⟨z, 0, none⟩) 1 1) 1 [.int .i64 xi, .int .i64 2, .string ⟨#[110, 101, 119]⟩] h90 (Rd.ofBlk hb rfl (by unfold maxLen; omega)) (by omega) (by unfold maxLen; omega) (fun v' w2 hr2 hx2 hv2 => ?_)
                obtain ⟨a', cap', rfl⟩ := Rd.isSlice hr2
                refine ⟨_, rfl, a', cap', rfl, hr2, hx.then0 hx2, fun y hy => ?_⟩
                rcases hv2 with ⟨h, _⟩ | ⟨h, _⟩
                · omega
                · rw [h] at hy; have := hx.size; simp at hy; omega
              case f9_26 =>
                refine (if_neg (by decide)).mpr ((if_neg (by decide)).mpr ?_)
                intro g v w' hM hT hv hd
                refine op_run rfl ?_
                obtain ⟨a', cap', rfl, -⟩ := hM
                have e91 := hv (Option.some_ne_none _)
                replace e91 : g 91 = _ := e91
                generalize hA : mkAct _ _ g = A
                have h91 : A.tmps[91]?.getD undef = g 91 := by rw [← hA]; exact mkAct_in2 _ _ _ _ rfl rfl
                rw [e91] at h91
                refine step_val (w' := w') ?_ ⟨_, rfl, rfl, rfl⟩
                simp [execOp, h91, tupAt, Result.andThen, go_sem]
            intro g_ v wn hM hT hv hd
            obtain ⟨a', cap', rfl, hr2, hx2, hz2⟩ := hM
            have e12 : g_ 12 = .slice a' (len + 1) cap' := hd 9 (by decide) (by decide)
            clear hd hv hT cE cR
            unfold mkAct; simp only [List.zipIdx_cons, List.zipIdx_nil, List.map_cons, List.map_nil, Nat.zero_add, Nat.reduceAdd, List.contains_cons, List.contains_nil, Nat.reduceBEq, Bool.or_false, Bool.or_true, ↓reduceIte, Bool.false_eq_true]
            rw [e12]
            clear e12
            have hfl : xs ++ [.int .i64 xi, .int .i64 2, .string ⟨#[110, 101, 119]⟩] = (now ++ [⟨xi, 2, [110, 101, 119]⟩] : List Ent).flatMap Ent.cells := by rw [List.flatMap_append, HXs.out]; rfl
            have hln : (now ++ [⟨xi, 2, [110, 101, 119]⟩] : List Ent).length = len + 1 := by rw [List.length_append, ← HLen.out]; rfl
            rw [hfl] at hr2
            have hS27 := (HS25.out.sub (O' := []) (by simp)).addV hx2 (.slice a' (len + 1) cap') (fun z hz => ⟨hz2 z hz, hr2.blt (by omega) z hz⟩)
            have HS27 : Hid (St w0 wn wq b q 1 (.slice none 0 0) (.slice none 0 0) (now ++ [⟨xi, 2, [110, 101, 119]⟩]) (vblocks (.slice a' (now ++ [⟨xi, 2, [110, 101, 119]⟩] : List Ent).length cap') ++ [])) := Hid.of (by rw [hln]; exact hS27)
            have HR27 : Hid (Rd wn 3 (.slice a' (now ++ [⟨xi, 2, [110, 101, 119]⟩] : List Ent).length cap') (now ++ [⟨xi, 2, [110, 101, 119]⟩] : List Ent).length ((now ++ [⟨xi, 2, [110, 101, 119]⟩] : List Ent).flatMap Ent.cells)) := Hid.of (by rw [hln]; exact hr2)
            have HLn := Hid.of hln
            clear hfl hr2 hx2 hz2 hS27 hln HS25 HXs
            go_wp2
            exact ⟨⟨i + 1, now ++ [⟨xi, 2, [110, 101, 119]⟩], a', cap', by congr 1, by omega, by rw [HLn.out], by rw [HLn.out]; omega, HS27, HR27⟩, by simp [intOf]; omega⟩
          · have hSf := hS.out.setCells (.slice na len ncap)
            have hRf : RSt w0 (wr.setCell ⟨wq, 3, none⟩ (.slice na len ncap)) wq b q 1 (.slice none 0 0) now [] na ncap := by
              refine ⟨by rw [← hlen]; exact hSf.1, by rw [← hlen]; exact hSf.2.rd hR.out (fun z hz => by simp [hz])⟩
            have c3 : wr.cell? ⟨wq, 3, none⟩ = some (.slice none 0 0) := Blk.c hS.out.blk 3
            have f3 := Blk.f hS.out.blk 3
            have cS := hRf.shows
            have HRf := Hid.of hRf
            have hcase : ((i : Int) < (M : Int) ∧ ¬ (len : Int) < 8) ∨ ¬ (i : Int) < (M : Int) := by omega
            clear hRf hSf hS hR hgo hlen
            rcases hcase with ⟨h1, h2⟩ | h1
            all_goals (
              go_upto_region 30 with (first
                | (go_at_call 23; (with_reducible refine cS.mono ?_); rintro e w28 ⟨rfl, hx28⟩; have hS28 := HRf.out.keep hx28; have cA := again_c hS28 fa fl fc fs (HF.out.keep hS28.1.ext (by simp)); clear hx28 cS hS28))
              go_wp2_with (first
                | (go_at_call 25; (with_reducible refine cA.mono ?_); rintro e w29 ⟨rfl, b', q', hS29, hk29⟩; have HS29 := Hid.of hS29; clear cA hS29 hk29))
              go_ret
              exact ⟨rfl, HS29.out.1.ext⟩)
end Go.Proofs.Ytmjgbkepngeckaa
