/- Package net: the walk of Swap. -/
import Derived.Test.YtaekkkcgoegllaaNeta
import Derived.Test.YtaekkkcgoegllaaRegDet
namespace Go.Proofs.Ytaekkkcgoegllaa
open Go.RowKit
set_option linter.unusedVariables false
set_option linter.unusedSimpArgs false

def swV (S I J PI PJ A B : Value) (n : Nat) : Value := match n with
  | 0 => S
  | 1 => I
  | 2 => S
  | 3 => J
  | 4 => S
  | 5 => J
  | 6 => PJ
  | 7 => B
  | 8 => S
  | 9 => I
  | 10 => PI
  | 11 => A
  | 12 => PI
  | 14 => PJ
  | _ => undef

def swSt (W0 W1 W2 : World) (L : Array Bool) : World := if L[15]? = some true then W2 else if L[13]? = some true then W1 else W0
theorem arr_f {L : Array Bool} {n k : Nat} (hs : L.size = n) (hk : k < n) (h : L[k]? = some true → False) : L[k]? = some false := by
  have e : L[k]? = some (L[k]'(by omega)) := Array.getElem?_eq_getElem (by omega)
  rw [e] at h ⊢
  cases hb : L[k]'(by omega) with
  | true => rw [hb] at h; exact absurd rfl h
  | false => rfl
set_option maxHeartbeats 6400000 in
theorem swap_any (g off n c : Nat) (L : List Lt) (i j : Nat) (w : World) (h : Own w 74 19 (.slice (some ⟨g, off, none⟩) n c) n (lets L)) (hi : i < L.length) (hj : j < L.length) :
    Calls Try.prog 65 #[.slice (some ⟨g, off, none⟩) n c, .int .i64 (i : Int), .int .i64 (j : Int)] w fun e w' => e = .returned (.tuple #[]) ∧ Ext [g] w w' ∧ Own w' 74 19 (.slice (some ⟨g, off, none⟩) n c) n (lets (swp L i j)) := by
  have hn : n = L.length := by have := h.1; rw [lets_len] at this; omega
  have hlm : n ≤ 9223372036854775807 := by have := h.rd.len; unfold maxLen at this; omega
  have hw := h.keep (Ext.refl [] w).drew (by simp)
  have hA := hw.swap i j hi hj
  have hX : Ext [g] w ((w.drew.setCells g (off + i * 19) L[j].cells).setCells g (off + j * 19) L[i].cells) := ((Ext.refl _ _).drew.setCells (.inl (by simp)) _ _).setCells (.inl (by simp)) _ _
  obtain ⟨ri, ti⟩ := hw.range i hi
  obtain ⟨rj, tj⟩ := hw.range j hj
  have a1 : L[i].cells.toArray.all (·.oneCell') = true := all_oneCell_toArray (lcells_one _)
  have b1 : L[j].cells.toArray.all (·.oneCell') = true := all_oneCell_toArray (lcells_one _)
  have al := lcells_len L[i]
  have bl := lcells_len L[j]
  obtain ⟨ca, hca⟩ : ∃ c, c = L[i].cells := ⟨_, rfl⟩
  obtain ⟨cb, hcb⟩ : ∃ c, c = L[j].cells := ⟨_, rfl⟩
  rw [← hca] at ri hA hX a1 al
  rw [← hcb] at rj hA hX b1 bl
  rw [← hn] at hi hj
  clear hca hcb h hn hw
  have HA : Hid _ := hA
  clear hA
  obtain ⟨W0, hW0⟩ : ∃ W, W = w.drew := ⟨_, rfl⟩
  rw [← hW0] at HA hX ri ti rj tj
  obtain ⟨W1, hW1⟩ : ∃ W, W = W0.setCells g (off + i * 19) cb := ⟨_, rfl⟩
  obtain ⟨W2, hW2⟩ : ∃ W, W = W1.setCells g (off + j * 19) ca := ⟨_, rfl⟩
  rw [← hW1, ← hW2] at HA hX
  have hs0 : ∀ X : Array Bool, (X[13]? = some false ∧ X[15]? = some false) → swSt W0 W1 W2 X = W0 := by
    rintro X ⟨h1, h2⟩
    unfold swSt; rw [h1, h2]; simp
  have hs1 : ∀ X : Array Bool, X[13]? = some true → X[15]? = some false → swSt W0 W1 W2 X = W1 := by
    intro X h1 h2
    unfold swSt; rw [h1, h2]; simp
  have hs2 : ∀ X : Array Bool, X[15]? = some true → swSt W0 W1 W2 X = W2 := by
    intro X h1
    unfold swSt; rw [if_pos h1]
  have hsx : ∀ (X : Array Bool) (k : Nat), k ≠ 13 → k ≠ 15 → swSt W0 W1 W2 (X.setIfInBounds k true) = swSt W0 W1 W2 X := by
    intro X k h1 h2
    unfold swSt
    rw [Array.getElem?_setIfInBounds, Array.getElem?_setIfInBounds, if_neg h2, if_neg h1]
  go_enter Try.func65, Try.ntmps65
  go_wp2_with fail
  refine wp_region_det [6, 7, 8, 9, 10, 11, 12, 13, 14, 15, 16, 17, 18, 19] (swV (.slice (some ⟨g, off, none⟩) n c) (.int .i64 (i : Int)) (.int .i64 (j : Int)) (.pointer (some ⟨g, off + i * 19, none⟩)) (.pointer (some ⟨g, off + j * 19, none⟩)) (.agg ca.toArray) (.agg cb.toArray)) (swSt W0 W1 W2) (by kernel_rfl) (by kernel_rfl) ?h0 ⟨?f0, ?f1, ?f2, ?f3, ?f4, ?f5, ?f6, ?f7, ?f8, ?f9, ?f10, ?f11, ?f12, ?f13, ?f14, ?f15, trivial⟩ ?done
  case h0 =>
    rw [← hW0]
    unfold swSt
    rfl
  case f0 =>
    intro L g1 hsz hLi hdp hcl hv
    generalize hA : mkAct _ _ g1 = A
    have h0 : A.tmps[0]?.getD undef = .slice (some ⟨g, off, none⟩) n c := by rw [← hA]; exact mkAct_out2 _ _ _ _ _ rfl rfl
    refine step_val (v := .slice (some ⟨g, off, none⟩) n c) ?_ ⟨rfl, (hsx L 0 (by decide) (by decide)).symm⟩
    simp [execOp, h0, Result.andThen, go_sem]
  case f1 =>
    intro L g1 hsz hLi hdp hcl hv
    generalize hA : mkAct _ _ g1 = A
    have h1 : A.tmps[1]?.getD undef = .int .i64 (i : Int) := by rw [← hA]; exact mkAct_out2 _ _ _ _ _ rfl rfl
    refine step_val (v := .int .i64 (i : Int)) ?_ ⟨rfl, (hsx L 1 (by decide) (by decide)).symm⟩
    simp [execOp, h1, Result.andThen, go_sem]
  case f2 =>
    intro L g1 hsz hLi hdp hcl hv
    generalize hA : mkAct _ _ g1 = A
    have h0 : A.tmps[0]?.getD undef = .slice (some ⟨g, off, none⟩) n c := by rw [← hA]; exact mkAct_out2 _ _ _ _ _ rfl rfl
    refine step_val (v := .slice (some ⟨g, off, none⟩) n c) ?_ ⟨rfl, (hsx L 2 (by decide) (by decide)).symm⟩
    simp [execOp, h0, Result.andThen, go_sem]
  case f3 =>
    intro L g1 hsz hLi hdp hcl hv
    generalize hA : mkAct _ _ g1 = A
    have h2 : A.tmps[2]?.getD undef = .int .i64 (j : Int) := by rw [← hA]; exact mkAct_out2 _ _ _ _ _ rfl rfl
    refine step_val (v := .int .i64 (j : Int)) ?_ ⟨rfl, (hsx L 3 (by decide) (by decide)).symm⟩
    simp [execOp, h2, Result.andThen, go_sem]
  case f4 =>
    intro L g1 hsz hLi hdp hcl hv
    generalize hA : mkAct _ _ g1 = A
    have h0 : A.tmps[0]?.getD undef = .slice (some ⟨g, off, none⟩) n c := by rw [← hA]; exact mkAct_out2 _ _ _ _ _ rfl rfl
    refine step_val (v := .slice (some ⟨g, off, none⟩) n c) ?_ ⟨rfl, (hsx L 4 (by decide) (by decide)).symm⟩
    simp [execOp, h0, Result.andThen, go_sem]
  case f5 =>
    intro L g1 hsz hLi hdp hcl hv
    generalize hA : mkAct _ _ g1 = A
    have h2 : A.tmps[2]?.getD undef = .int .i64 (j : Int) := by rw [← hA]; exact mkAct_out2 _ _ _ _ _ rfl rfl
    refine step_val (v := .int .i64 (j : Int)) ?_ ⟨rfl, (hsx L 5 (by decide) (by decide)).symm⟩
    simp [execOp, h2, Result.andThen, go_sem]
  case f6 =>
    intro L g1 hsz hLi hdp hcl hv
    have e10 : g1 10 = .slice (some ⟨g, off, none⟩) n c := hv 4 _ rfl rfl (hdp ⟨4, .data⟩ (by simp) rfl)
    have e11 : g1 11 = .int .i64 (j : Int) := hv 5 _ rfl rfl (hdp ⟨5, .data⟩ (by simp) rfl)
    generalize hA : mkAct _ _ g1 = A
    have h10 : A.tmps[10]?.getD undef = .slice (some ⟨g, off, none⟩) n c := by rw [← hA, mkAct_in2 _ _ _ _ rfl rfl]; exact e10
    have h11 : A.tmps[11]?.getD undef = .int .i64 (j : Int) := by rw [← hA, mkAct_in2 _ _ _ _ rfl rfl]; exact e11
    refine step_val (v := .pointer (some ⟨g, off + j * 19, none⟩)) ?_ ⟨rfl, (hsx L 6 (by decide) (by decide)).symm⟩
    simp [execOp, h10, h11, Result.andThen, go_sem, hi, hj]
  case f7 =>
    intro L g1 hsz hLi hdp hcl hv
    have e12 : g1 12 = .pointer (some ⟨g, off + j * 19, none⟩) := hv 6 _ rfl rfl (hdp ⟨6, .data⟩ (by simp) rfl)
    generalize hA : mkAct _ _ g1 = A
    have h12 : A.tmps[12]?.getD undef = .pointer (some ⟨g, off + j * 19, none⟩) := by rw [← hA, mkAct_in2 _ _ _ _ rfl rfl]; exact e12
    have h15 : L[15]? = some false := arr_f hsz (by decide) fun hb => by rw [hcl 15 _ rfl hb ⟨7, .phase⟩ (by simp) rfl] at hLi; cases hLi
    have h13 : L[13]? = some false := arr_f hsz (by decide) fun hb => by rw [hcl 13 _ rfl hb ⟨7, .phase⟩ (by simp) rfl] at hLi; cases hLi
    have hst := hs0 L ⟨h13, h15⟩
    rw [hst]
    refine wp_load_mid _ _ rfl g (off + j * 19) (by simpa [Act.eval] using h12) cb _ rj Try.underlying74 rfl (by rw [bl]; kernel_rfl) ⟨rfl, ?_⟩
    exact ((hsx L 7 (by decide) (by decide)).trans hst).symm
  case f8 =>
    intro L g1 hsz hLi hdp hcl hv
    generalize hA : mkAct _ _ g1 = A
    have h0 : A.tmps[0]?.getD undef = .slice (some ⟨g, off, none⟩) n c := by rw [← hA]; exact mkAct_out2 _ _ _ _ _ rfl rfl
    refine step_val (v := .slice (some ⟨g, off, none⟩) n c) ?_ ⟨rfl, (hsx L 8 (by decide) (by decide)).symm⟩
    simp [execOp, h0, Result.andThen, go_sem]
  case f9 =>
    intro L g1 hsz hLi hdp hcl hv
    generalize hA : mkAct _ _ g1 = A
    have h1 : A.tmps[1]?.getD undef = .int .i64 (i : Int) := by rw [← hA]; exact mkAct_out2 _ _ _ _ _ rfl rfl
    refine step_val (v := .int .i64 (i : Int)) ?_ ⟨rfl, (hsx L 9 (by decide) (by decide)).symm⟩
    simp [execOp, h1, Result.andThen, go_sem]
  case f10 =>
    intro L g1 hsz hLi hdp hcl hv
    have e14 : g1 14 = .slice (some ⟨g, off, none⟩) n c := hv 8 _ rfl rfl (hdp ⟨8, .data⟩ (by simp) rfl)
    have e15 : g1 15 = .int .i64 (i : Int) := hv 9 _ rfl rfl (hdp ⟨9, .data⟩ (by simp) rfl)
    generalize hA : mkAct _ _ g1 = A
    have h14 : A.tmps[14]?.getD undef = .slice (some ⟨g, off, none⟩) n c := by rw [← hA, mkAct_in2 _ _ _ _ rfl rfl]; exact e14
    have h15 : A.tmps[15]?.getD undef = .int .i64 (i : Int) := by rw [← hA, mkAct_in2 _ _ _ _ rfl rfl]; exact e15
    refine step_val (v := .pointer (some ⟨g, off + i * 19, none⟩)) ?_ ⟨rfl, (hsx L 10 (by decide) (by decide)).symm⟩
    simp [execOp, h14, h15, Result.andThen, go_sem, hi, hj]
  case f11 =>
    intro L g1 hsz hLi hdp hcl hv
    have e16 : g1 16 = .pointer (some ⟨g, off + i * 19, none⟩) := hv 10 _ rfl rfl (hdp ⟨10, .data⟩ (by simp) rfl)
    generalize hA : mkAct _ _ g1 = A
    have h16 : A.tmps[16]?.getD undef = .pointer (some ⟨g, off + i * 19, none⟩) := by rw [← hA, mkAct_in2 _ _ _ _ rfl rfl]; exact e16
    have h15 : L[15]? = some false := arr_f hsz (by decide) fun hb => by rw [hcl 15 _ rfl hb ⟨11, .phase⟩ (by simp) rfl] at hLi; cases hLi
    have h13 : L[13]? = some false := arr_f hsz (by decide) fun hb => by rw [hcl 13 _ rfl hb ⟨11, .phase⟩ (by simp) rfl] at hLi; cases hLi
    have hst := hs0 L ⟨h13, h15⟩
    rw [hst]
    refine wp_load_mid _ _ rfl g (off + i * 19) (by simpa [Act.eval] using h16) ca _ ri Try.underlying74 rfl (by rw [al]; kernel_rfl) ⟨rfl, ?_⟩
    exact ((hsx L 11 (by decide) (by decide)).trans hst).symm
  case f12 =>
    intro L g1 hsz hLi hdp hcl hv
    have e6 : g1 6 = .slice (some ⟨g, off, none⟩) n c := hv 0 _ rfl rfl (hdp ⟨0, .data⟩ (by simp) rfl)
    have e7 : g1 7 = .int .i64 (i : Int) := hv 1 _ rfl rfl (hdp ⟨1, .data⟩ (by simp) rfl)
    generalize hA : mkAct _ _ g1 = A
    have h6 : A.tmps[6]?.getD undef = .slice (some ⟨g, off, none⟩) n c := by rw [← hA, mkAct_in2 _ _ _ _ rfl rfl]; exact e6
    have h7 : A.tmps[7]?.getD undef = .int .i64 (i : Int) := by rw [← hA, mkAct_in2 _ _ _ _ rfl rfl]; exact e7
    refine step_val (v := .pointer (some ⟨g, off + i * 19, none⟩)) ?_ ⟨rfl, (hsx L 12 (by decide) (by decide)).symm⟩
    simp [execOp, h6, h7, Result.andThen, go_sem, hi, hj]
  case f13 =>
    intro L g1 hsz hLi hdp hcl hv
    have e18 : g1 18 = .pointer (some ⟨g, off + i * 19, none⟩) := hv 12 _ rfl rfl (hdp ⟨12, .data⟩ (by simp) rfl)
    have e13 : g1 13 = .agg cb.toArray := hv 7 _ rfl rfl (hdp ⟨7, .data⟩ (by simp) rfl)
    generalize hA : mkAct _ _ g1 = A
    have h18 : A.tmps[18]?.getD undef = .pointer (some ⟨g, off + i * 19, none⟩) := by rw [← hA, mkAct_in2 _ _ _ _ rfl rfl]; exact e18
    have h13 : A.tmps[13]?.getD undef = .agg cb.toArray := by rw [← hA, mkAct_in2 _ _ _ _ rfl rfl]; exact e13
    have h15 : L[15]? = some false := arr_f hsz (by decide) fun hb => by rw [hcl 15 _ rfl hb ⟨13, .phase⟩ (by simp) rfl] at hLi; cases hLi
    have hst := hs0 L ⟨hLi, h15⟩
    rw [hst]
    refine wp_store_mid _ _ _ rfl g (off + i * 19) cb.toArray (by simpa [Act.eval] using h18) (by simpa [Act.eval] using h13) (by rw [List.size_toArray, bl]; exact ti) (by rw [List.size_toArray, bl]; kernel_rfl) b1 ⟨rfl, ?_⟩
    rw [hs1 _ (by rw [Array.getElem?_setIfInBounds, if_pos rfl, if_pos (by rw [hsz]; decide)]) (by rw [Array.getElem?_setIfInBounds, if_neg (by decide)]; exact h15), hW1]
  case f14 =>
    intro L g1 hsz hLi hdp hcl hv
    have e8 : g1 8 = .slice (some ⟨g, off, none⟩) n c := hv 2 _ rfl rfl (hdp ⟨2, .data⟩ (by simp) rfl)
    have e9 : g1 9 = .int .i64 (j : Int) := hv 3 _ rfl rfl (hdp ⟨3, .data⟩ (by simp) rfl)
    generalize hA : mkAct _ _ g1 = A
    have h8 : A.tmps[8]?.getD undef = .slice (some ⟨g, off, none⟩) n c := by rw [← hA, mkAct_in2 _ _ _ _ rfl rfl]; exact e8
    have h9 : A.tmps[9]?.getD undef = .int .i64 (j : Int) := by rw [← hA, mkAct_in2 _ _ _ _ rfl rfl]; exact e9
    refine step_val (v := .pointer (some ⟨g, off + j * 19, none⟩)) ?_ ⟨rfl, (hsx L 14 (by decide) (by decide)).symm⟩
    simp [execOp, h8, h9, Result.andThen, go_sem, hi, hj]
  case f15 =>
    intro L g1 hsz hLi hdp hcl hv
    have e19 : g1 19 = .pointer (some ⟨g, off + j * 19, none⟩) := hv 14 _ rfl rfl (hdp ⟨14, .data⟩ (by simp) rfl)
    have e17 : g1 17 = .agg ca.toArray := hv 11 _ rfl rfl (hdp ⟨11, .data⟩ (by simp) rfl)
    generalize hA : mkAct _ _ g1 = A
    have h19 : A.tmps[19]?.getD undef = .pointer (some ⟨g, off + j * 19, none⟩) := by rw [← hA, mkAct_in2 _ _ _ _ rfl rfl]; exact e19
    have h17 : A.tmps[17]?.getD undef = .agg ca.toArray := by rw [← hA, mkAct_in2 _ _ _ _ rfl rfl]; exact e17
    have h13 : L[13]? = some true := hdp ⟨13, .phase⟩ (by simp) rfl
    have hst := hs1 L h13 hLi
    rw [hst]
    refine wp_store_mid _ _ _ rfl g (off + j * 19) ca.toArray (by simpa [Act.eval] using h19) (by simpa [Act.eval] using h17) (by rw [List.size_toArray, al, hW1]; exact World.there_setCells tj _ _ _) (by rw [List.size_toArray, al]; kernel_rfl) a1 ⟨rfl, ?_⟩
    rw [hs2 _ (by rw [Array.getElem?_setIfInBounds, if_pos rfl, if_pos (by rw [hsz]; decide)]), hW2]
  case done =>
    intro g1 hv
    rw [hs2 _ (by rfl)]
    clear hs0 hs1 hs2 hsx
    unfold mkAct
    simp only [List.zipIdx_cons, List.zipIdx_nil, List.map_cons, List.map_nil, Nat.zero_add, Nat.reduceAdd, List.contains_cons, List.contains_nil, Nat.reduceBEq, Bool.or_false, Bool.or_true, ↓reduceIte, Bool.false_eq_true]
    go_wp2
    go_end0
    exact ⟨rfl, hX, HA.out⟩
end Go.Proofs.Ytaekkkcgoegllaa
