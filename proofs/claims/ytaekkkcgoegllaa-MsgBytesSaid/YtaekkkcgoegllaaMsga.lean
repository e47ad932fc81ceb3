/- Package slices over ints, entries, sums: Min, Max, Equal. -/
import Derived.Test.YtaekkkcgoegllaaMsgLaw
import Derived.Test.YtaekkkcgoegllaaHeld
import Derived.Test.YtaekkkcgoegllaaRow
import Derived.Deep.QuietTactic
import Derived.BigQuiet
import Derived.IntWalk
import Derived.Deep.CutBlock
namespace Go.Proofs.Ytaekkkcgoegllaa
open Go.RowKit
set_option linter.unusedVariables false
set_option linter.unusedSimpArgs false
attribute [local go_sem high] run_max2 run_min2
deriving instance DecidableEq for En

set_option maxRecDepth 100000 in
set_option maxHeartbeats 3200000 in
theorem smin_any (a : Option Addr) (n c : Nat) (ns : List Int) (w : World) (h : Rd w 1 (.slice a n c) n (ns.map (Value.int .i64))) (h0 : 0 < n) :
    Calls Try.prog 31 #[.slice a n c] w fun e w' => (∃ r, e = .returned (.int .i64 r) ∧ r ∈ ns ∧ ∀ x ∈ ns, r ≤ x) ∧ w = w' := by
  have hl : ns.length = n := by have := h.len; simp at this; omega
  have hlm : n ≤ 9223372036854775807 := by have := h.len; unfold maxLen at this; omega
  obtain ⟨q, off, rfl, hqw, hc⟩ := h.view (by omega)
  have hcell : ∀ k x, ns[k]? = some x → w.cell? ⟨q, off + k, none⟩ = some (.int .i64 x) := fun k x hk => hc k _ (by rw [List.getElem?_map, hk]; rfl)
  obtain ⟨x0, hx0⟩ : ∃ x, ns[0]? = some x := ⟨_, List.getElem?_eq_getElem (by omega)⟩
  have c0 := hcell 0 x0 hx0
  rw [Nat.add_zero] at c0
  have HX0 := Hid.of hx0
  have HC := Hid.of hcell
  have HL := Hid.of hl
  have hn1 : ¬ n < 1 := by omega
  have hn2 : n ≠ 0 := by omega
  clear hcell hc hl h hx0
  go_enter Try.func31, Try.ntmps31
  go_wp2
  go_loopw [3, 4] (fun u3 u4 wr => wr = w ∧ ∃ (k : Nat) (r : Int), u4 = .int .i64 (k : Int) ∧ u3 = .int .i64 r ∧ 1 ≤ k ∧ k ≤ n ∧ Hid (r ∈ ns) ∧ Hid (∀ x ∈ ns.take k, r ≤ x)) (fun _ u4 _ => n - (intOf u4).toNat)
  case atStart =>
    refine ⟨rfl, 1, _, rfl, rfl, by omega, by omega, List.mem_of_getElem? HX0.out, ?_⟩
    intro x hx
    have h0 := HX0.out
    cases ns with
    | nil => simp at hx
    | cons y l => simp at hx h0; subst hx; subst h0; exact Int.le_refl _
  case round =>
    obtain ⟨rfl, k, r, rfl, rfl, hk1, hk, hr, hm⟩ := hrel
    by_cases hlt : k < n
    · have hkm : k < ns.length := by rw [HL.out]; exact hlt
      obtain ⟨x, hx⟩ : ∃ x, ns[k]? = some x := ⟨_, List.getElem?_eq_getElem hkm⟩
      have ck := HC.out k x hx
      have HX := Hid.of hx
      clear hx
      go_wp2
      go_roundw
      case rel =>
        refine ⟨trivial, k + 1, min r x, by congr 1, rfl, by omega, by omega, ?_, ?_⟩
        · show _ ∈ _
          rw [Int.min_def]; split
          · exact hr.out
          · exact List.mem_of_getElem? HX.out
        · intro y hy
          rw [List.take_add_one, HX.out] at hy
          rcases List.mem_append.1 hy with hy | hy
          · have := hm.out y hy; omega
          · simp at hy; subst hy; omega
      case measure => simp [intOf]; omega
    · obtain rfl : k = n := by omega
      go_wp2
      go_ret
      refine ⟨⟨r, rfl, hr.out, ?_⟩, rfl⟩
      have := hm.out
      rwa [List.take_of_length_le (by have := HL.out; omega)] at this
set_option maxRecDepth 100000 in
set_option maxHeartbeats 3200000 in
theorem smax_any (a : Option Addr) (n c : Nat) (ns : List Int) (w : World) (h : Rd w 1 (.slice a n c) n (ns.map (Value.int .i64))) (h0 : 0 < n) :
    Calls Try.prog 32 #[.slice a n c] w fun e w' => (∃ r, e = .returned (.int .i64 r) ∧ r ∈ ns ∧ ∀ x ∈ ns, x ≤ r) ∧ w = w' := by
  have hl : ns.length = n := by have := h.len; simp at this; omega
  have hlm : n ≤ 9223372036854775807 := by have := h.len; unfold maxLen at this; omega
  obtain ⟨q, off, rfl, hqw, hc⟩ := h.view (by omega)
  have hcell : ∀ k x, ns[k]? = some x → w.cell? ⟨q, off + k, none⟩ = some (.int .i64 x) := fun k x hk => hc k _ (by rw [List.getElem?_map, hk]; rfl)
  obtain ⟨x0, hx0⟩ : ∃ x, ns[0]? = some x := ⟨_, List.getElem?_eq_getElem (by omega)⟩
  have c0 := hcell 0 x0 hx0
  rw [Nat.add_zero] at c0
  have HX0 := Hid.of hx0
  have HC := Hid.of hcell
  have HL := Hid.of hl
  have hn1 : ¬ n < 1 := by omega
  have hn2 : n ≠ 0 := by omega
  clear hcell hc hl h hx0
  go_enter Try.func32, Try.ntmps32
  go_wp2
  go_loopw [3, 4] (fun u3 u4 wr => wr = w ∧ ∃ (k : Nat) (r : Int), u4 = .int .i64 (k : Int) ∧ u3 = .int .i64 r ∧ 1 ≤ k ∧ k ≤ n ∧ Hid (r ∈ ns) ∧ Hid (∀ x ∈ ns.take k, x ≤ r)) (fun _ u4 _ => n - (intOf u4).toNat)
  case atStart =>
    refine ⟨rfl, 1, _, rfl, rfl, by omega, by omega, List.mem_of_getElem? HX0.out, ?_⟩
    intro x hx
    have h0 := HX0.out
    cases ns with
    | nil => simp at hx
    | cons y l => simp at hx h0; subst hx; subst h0; exact Int.le_refl _
  case round =>
    obtain ⟨rfl, k, r, rfl, rfl, hk1, hk, hr, hm⟩ := hrel
    by_cases hlt : k < n
    · have hkm : k < ns.length := by rw [HL.out]; exact hlt
      obtain ⟨x, hx⟩ : ∃ x, ns[k]? = some x := ⟨_, List.getElem?_eq_getElem hkm⟩
      have ck := HC.out k x hx
      have HX := Hid.of hx
      clear hx
      go_wp2
      go_roundw
      case rel =>
        refine ⟨trivial, k + 1, max r x, by congr 1, rfl, by omega, by omega, ?_, ?_⟩
        · show _ ∈ _
          rw [Int.max_def]; split
          · exact List.mem_of_getElem? HX.out
          · exact hr.out
        · intro y hy
          rw [List.take_add_one, HX.out] at hy
          rcases List.mem_append.1 hy with hy | hy
          · have := hm.out y hy; omega
          · simp at hy; subst hy; omega
      case measure => simp [intOf]; omega
    · obtain rfl : k = n := by omega
      go_wp2
      go_ret
      refine ⟨⟨r, rfl, hr.out, ?_⟩, rfl⟩
      have := hm.out
      rwa [List.take_of_length_le (by have := HL.out; omega)] at this
theorem take_eq_succ {α : Type} {l m : List α} {k : Nat} {x : α} (h : l.take k = m.take k) (hx : l[k]? = some x) (hy : m[k]? = some x) : l.take (k + 1) = m.take (k + 1) := by
  rw [List.take_add_one, List.take_add_one, h, hx, hy]
theorem u32_inj {x y : UInt32} : ((x.toNat : Int) = (y.toNat : Int)) ↔ x = y :=
  ⟨fun h => UInt32.toNat_inj.1 (by omega), fun h => by rw [h]⟩
set_option maxRecDepth 100000 in
set_option maxHeartbeats 3200000 in
theorem seq32_any (a b : Option Addr) (n c m d : Nat) (xs ys : List UInt32) (w : World) (h : Rd w 1 (.slice a n c) n (u32s xs)) (h2 : Rd w 1 (.slice b m d) m (u32s ys)) :
    Calls Try.prog 46 #[.slice a n c, .slice b m d] w fun e w' => e = .returned (.bool (decide (xs = ys))) ∧ Ext [] w w' := by
  have hl : xs.length = n := by have := h.len; simp [u32s] at this; omega
  have hl2 : ys.length = m := by have := h2.len; simp [u32s] at this; omega
  have hlm : n ≤ 9223372036854775807 := by have := h.len; unfold maxLen at this; omega
  by_cases hnm : n = m
  · subst hnm
    have hcell : ∀ k x, xs[k]? = some x → ∃ q off, a = some ⟨q, off, none⟩ ∧ ∀ wr, Ext [] w wr → wr.cell? ⟨q, off + k, none⟩ = some (.int .u32 (x.toNat : Int)) := fun k x hk => by
      have hkl := (List.getElem?_eq_some_iff.1 hk).1
      obtain ⟨q, off, rfl, hqw, hc⟩ := h.view (by omega)
      exact ⟨q, off, rfl, fun wr hx => hx.cell (by simp) (hc k _ (by rw [u32s, List.getElem?_map, hk]; rfl))⟩
    have hcell2 : ∀ k x, ys[k]? = some x → ∃ q off, b = some ⟨q, off, none⟩ ∧ ∀ wr, Ext [] w wr → wr.cell? ⟨q, off + k, none⟩ = some (.int .u32 (x.toNat : Int)) := fun k x hk => by
      have hkl := (List.getElem?_eq_some_iff.1 hk).1
      obtain ⟨q, off, rfl, hqw, hc⟩ := h2.view (by omega)
      exact ⟨q, off, rfl, fun wr hx => hx.cell (by simp) (hc k _ (by rw [u32s, List.getElem?_map, hk]; rfl))⟩
    have HC := Hid.of hcell
    have HC2 := Hid.of hcell2
    have HL := Hid.of hl
    have HL2 := Hid.of hl2
    clear hcell hcell2 hl hl2 h h2
    go_enter Try.func46, Try.ntmps46
    go_wp2
    go_loopw [13] (fun u13 wr => ∃ (k : Nat), u13 = .int .i64 (k : Int) ∧ k ≤ n ∧ Hid (xs.take k = ys.take k) ∧ Hid (Ext [] w wr)) (fun u13 _ => n - (intOf u13).toNat)
    case atStart => exact ⟨0, rfl, by omega, rfl, Ext.refl _ _⟩
    case round =>
      obtain ⟨k, rfl, hk, he, hx⟩ := hrel
      by_cases hlt : k < n
      · have hkm : k < xs.length := by rw [HL.out]; exact hlt
        have hkm2 : k < ys.length := by rw [HL2.out]; exact hlt
        obtain ⟨x, hxk⟩ : ∃ x, xs[k]? = some x := ⟨_, List.getElem?_eq_getElem hkm⟩
        obtain ⟨y, hyk⟩ : ∃ y, ys[k]? = some y := ⟨_, List.getElem?_eq_getElem hkm2⟩
        obtain ⟨q, off, rfl, hc⟩ := HC.out k x hxk
        obtain ⟨q2, off2, rfl, hc2⟩ := HC2.out k y hyk
        have c1 := hc _ (hx.out.then0 (Ext.refl [] wr).drew)
        have c2 := hc2 _ (hx.out.then0 (Ext.refl [] wr).drew)
        have d1 : ∀ j, (wr.drewN j).cell? ⟨q, off + k, none⟩ = some (.int .u32 (x.toNat : Int)) := fun j => hc _ (hx.out.then0 ((Ext.refl [] wr).drewN j))
        have d2 : ∀ j, (wr.drewN j).cell? ⟨q2, off2 + k, none⟩ = some (.int .u32 (y.toNat : Int)) := fun j => hc2 _ (hx.out.then0 ((Ext.refl [] wr).drewN j))
        have HX := Hid.of hxk
        have HY := Hid.of hyk
        clear hxk hyk hc hc2
        by_cases hxy : x = y
        · subst hxy
          have HE := Hid.of (take_eq_succ he.out HX.out HY.out)
          go_wp2
          go_quiet (fail)
          go_wp2
          go_roundw
          case rel => exact ⟨k + 1, by congr 1, by omega, HE.out, hx.out.then0 ((Ext.refl [] wr).drewN _)⟩
          case measure => simp [intOf]; omega
        · have hne : ¬ x.toNat = y.toNat := fun h => hxy (UInt32.toNat_inj.1 h)
          have HE : Hid (decide (xs = ys) = false) := decide_eq_false (fun h => hxy (by have := HX.out; rw [h, HY.out] at this; exact (Option.some.inj this).symm))
          go_wp2
          go_quiet (fail)
          go_wp2
          go_ret
          rw [HE.out]
          exact ⟨rfl, hx.out.then0 ((Ext.refl [] wr).drewN _)⟩
      · obtain rfl : k = n := by omega
        have HE : Hid (decide (xs = ys) = true) := by
          have := he.out
          rw [List.take_of_length_le (by have := HL.out; omega), List.take_of_length_le (by have := HL2.out; omega)] at this
          exact decide_eq_true this
        go_wp2
        go_ret
        rw [HE.out]
        exact ⟨rfl, hx.out⟩
  · have hne : ¬ (n : Int) = (m : Int) := by omega
    have HE : Hid (decide (xs = ys) = false) := decide_eq_false (fun h => hnm (by rw [← hl, ← hl2, h]))
    clear hl hl2 h h2
    go_enter Try.func46, Try.ntmps46
    go_wp2
    go_ret
    rw [HE.out]
    exact ⟨rfl, Ext.refl _ _⟩
theorem ecells_len (e : En) : e.cells.length = 3 := rfl
set_option maxRecDepth 100000 in
set_option maxHeartbeats 3200000 in
theorem sents_any (a b : Option Addr) (n c m d : Nat) (xs ys : List En) (w : World) (h : Rd w 3 (.slice a n c) n (xs.flatMap En.cells)) (h2 : Rd w 3 (.slice b m d) m (ys.flatMap En.cells)) :
    Calls Try.prog 39 #[.slice a n c, .slice b m d] w fun e w' => e = .returned (.bool (decide (xs = ys))) ∧ Ext [] w w' := by
  have hl : xs.length = n := by have := h.len; have e3 := flatMap_len En.cells 3 ecells_len xs; rw [e3] at this; omega
  have hl2 : ys.length = m := by have := h2.len; have e3 := flatMap_len En.cells 3 ecells_len ys; rw [e3] at this; omega
  have hlm : n ≤ 9223372036854775807 := by have := h.len; unfold maxLen at this; omega
  by_cases hnm : n = m
  · subst hnm
    have hcell : ∀ k x, xs[k]? = some x → ∃ q off, a = some ⟨q, off, none⟩ ∧ ∀ wr, Ext [] w wr → wr.cell? ⟨q, off + k * 3, none⟩ = some (.int .i64 x.index) ∧ wr.cell? ⟨q, off + k * 3 + 1, none⟩ = some (.int .i64 x.term) ∧ wr.cell? ⟨q, off + k * 3 + 2, none⟩ = some (str x.data) := fun k x hk => by
      obtain ⟨hkl, hkx⟩ := List.getElem?_eq_some_iff.1 hk
      obtain ⟨q, off, rfl, hqw, hc⟩ := h.view (by omega)
      have hg : ∀ j u, j < 3 → x.cells[j]? = some u → w.cell? ⟨q, off + k * 3 + j, none⟩ = some u := fun j u hj hu => by
        have := hc (k * 3 + j) u (by rw [flatMap_get En.cells 3 ecells_len xs k j hkl hj, hkx]; exact hu)
        rwa [← Nat.add_assoc] at this
      exact ⟨q, off, rfl, fun wr hx => ⟨hx.cell (by simp) (hg 0 _ (by omega) rfl), hx.cell (by simp) (hg 1 _ (by omega) rfl), hx.cell (by simp) (hg 2 _ (by omega) rfl)⟩⟩
    have hcell2 : ∀ k x, ys[k]? = some x → ∃ q off, b = some ⟨q, off, none⟩ ∧ ∀ wr, Ext [] w wr → wr.cell? ⟨q, off + k * 3, none⟩ = some (.int .i64 x.index) ∧ wr.cell? ⟨q, off + k * 3 + 1, none⟩ = some (.int .i64 x.term) ∧ wr.cell? ⟨q, off + k * 3 + 2, none⟩ = some (str x.data) := fun k x hk => by
      obtain ⟨hkl, hkx⟩ := List.getElem?_eq_some_iff.1 hk
      obtain ⟨q, off, rfl, hqw, hc⟩ := h2.view (by omega)
      have hg : ∀ j u, j < 3 → x.cells[j]? = some u → w.cell? ⟨q, off + k * 3 + j, none⟩ = some u := fun j u hj hu => by
        have := hc (k * 3 + j) u (by rw [flatMap_get En.cells 3 ecells_len ys k j hkl hj, hkx]; exact hu)
        rwa [← Nat.add_assoc] at this
      exact ⟨q, off, rfl, fun wr hx => ⟨hx.cell (by simp) (hg 0 _ (by omega) rfl), hx.cell (by simp) (hg 1 _ (by omega) rfl), hx.cell (by simp) (hg 2 _ (by omega) rfl)⟩⟩
    have HC := Hid.of hcell
    have HC2 := Hid.of hcell2
    have HL := Hid.of hl
    have HL2 := Hid.of hl2
    clear hcell hcell2 hl hl2 h h2
    go_enter Try.func39, Try.ntmps39
    go_wp2
    go_loopw [13] (fun u13 wr => ∃ (k : Nat), u13 = .int .i64 (k : Int) ∧ k ≤ n ∧ Hid (xs.take k = ys.take k) ∧ Hid (Ext [] w wr)) (fun u13 _ => n - (intOf u13).toNat)
    case atStart => exact ⟨0, rfl, by omega, rfl, Ext.refl _ _⟩
    case round =>
      obtain ⟨k, rfl, hk, he, hx⟩ := hrel
      by_cases hlt : k < n
      · have hkm : k < xs.length := by rw [HL.out]; exact hlt
        have hkm2 : k < ys.length := by rw [HL2.out]; exact hlt
        obtain ⟨x, hxk⟩ : ∃ x, xs[k]? = some x := ⟨_, List.getElem?_eq_getElem hkm⟩
        obtain ⟨y, hyk⟩ : ∃ y, ys[k]? = some y := ⟨_, List.getElem?_eq_getElem hkm2⟩
        obtain ⟨q, off, rfl, hc⟩ := HC.out k x hxk
        obtain ⟨q2, off2, rfl, hc2⟩ := HC2.out k y hyk
        obtain ⟨xi, xt, xd⟩ := x
        obtain ⟨yi, yt, yd⟩ := y
        have d10 : ∀ j, (wr.drewN j).cell? ⟨q, off + k * 3, none⟩ = some (.int .i64 xi) := fun j => (hc _ (hx.out.then0 ((Ext.refl [] wr).drewN j))).1
        have d11 : ∀ j, (wr.drewN j).cell? ⟨q, off + k * 3 + 1, none⟩ = some (.int .i64 xt) := fun j => (hc _ (hx.out.then0 ((Ext.refl [] wr).drewN j))).2.1
        have d12 : ∀ j, (wr.drewN j).cell? ⟨q, off + k * 3 + 2, none⟩ = some (str xd) := fun j => (hc _ (hx.out.then0 ((Ext.refl [] wr).drewN j))).2.2
        have d20 : ∀ j, (wr.drewN j).cell? ⟨q2, off2 + k * 3, none⟩ = some (.int .i64 yi) := fun j => (hc2 _ (hx.out.then0 ((Ext.refl [] wr).drewN j))).1
        have d21 : ∀ j, (wr.drewN j).cell? ⟨q2, off2 + k * 3 + 1, none⟩ = some (.int .i64 yt) := fun j => (hc2 _ (hx.out.then0 ((Ext.refl [] wr).drewN j))).2.1
        have d22 : ∀ j, (wr.drewN j).cell? ⟨q2, off2 + k * 3 + 2, none⟩ = some (str yd) := fun j => (hc2 _ (hx.out.then0 ((Ext.refl [] wr).drewN j))).2.2
        have HX := Hid.of hxk
        have HY := Hid.of hyk
        clear hxk hyk hc hc2
        by_cases hxy : (⟨xi, xt, xd⟩ : En) = ⟨yi, yt, yd⟩
        · cases hxy
          have HE := Hid.of (take_eq_succ he.out HX.out HY.out)
          go_wp2
          go_quiet (fail)
          go_wp2
          go_roundw
          case rel => exact ⟨k + 1, by congr 1, by omega, HE.out, hx.out.then0 ((Ext.refl [] wr).drewN _)⟩
          case measure => simp [intOf]; omega
        · have HE : Hid (decide (xs = ys) = false) := decide_eq_false (fun h => hxy (by have := HX.out; rw [h, HY.out] at this; exact (Option.some.inj this).symm))
          have hne : ¬ (xi = yi ∧ xt = yt ∧ xd = yd) := fun h => hxy (by rw [h.1, h.2.1, h.2.2])
          clear hxy
          have hcase : ¬ xi = yi ∨ (xi = yi ∧ ¬ xt = yt) ∨ (xi = yi ∧ xt = yt ∧ ¬ xd = yd) := by
            by_cases h1 : xi = yi
            · by_cases h2 : xt = yt
              · exact .inr (.inr ⟨h1, h2, fun h3 => hne ⟨h1, h2, h3⟩⟩)
              · exact .inr (.inl ⟨h1, h2⟩)
            · exact .inl h1
          clear hne
          rcases hcase with h1 | ⟨rfl, h2⟩ | ⟨rfl, rfl, h3⟩
          all_goals (
            go_wp2
            go_quiet (fail)
            go_wp2
            go_ret
            rw [HE.out]
            exact ⟨rfl, hx.out.then0 ((Ext.refl [] wr).drewN _)⟩)
      · obtain rfl : k = n := by omega
        have HE : Hid (decide (xs = ys) = true) := by
          have := he.out
          rw [List.take_of_length_le (by have := HL.out; omega), List.take_of_length_le (by have := HL2.out; omega)] at this
          exact decide_eq_true this
        go_wp2
        go_ret
        rw [HE.out]
        exact ⟨rfl, hx.out⟩
  · have hne : ¬ (n : Int) = (m : Int) := by omega
    have HE : Hid (decide (xs = ys) = false) := decide_eq_false (fun h => hnm (by rw [← hl, ← hl2, h]))
    clear hl hl2 h h2
    go_enter Try.func39, Try.ntmps39
    go_wp2
    go_ret
    rw [HE.out]
    exact ⟨rfl, Ext.refl _ _⟩
end Go.Proofs.Ytaekkkcgoegllaa
