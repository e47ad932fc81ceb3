/- Frames (what a call may have written), rows of memory that a slice value reads or owns, and append and conversions over them. No function of the program is named here. -/
import Derived.Test.YtmjgbkepngeckaaRows
import Derived.WalkKit
import Derived.WalkSpells
import Derived.WalkLawsBesides
import Derived.Lib.AppendStr
namespace Go.Proofs.Ytmjgbkepngeckaa
open Go.RowKit Go.Lib
set_option linter.unusedVariables false

/-- The blocks that a value leads to at once. -/
def vblocks : Value → List Nat
  | .slice (some a) _ _ => [a.block]
  | .pointer (some a) => [a.block]
  | .map (some b) => [b]
  | _ => []

/-- Of the blocks that were there, those in F alone may have turned. -/
structure Ext (F : List Nat) (w w' : World) : Prop where
  os : w'.os = w.os
  tape : w'.tape = w.tape
  output : w'.output = w.output
  size : w.heap.size ≤ w'.heap.size
  block : ∀ k, k < w.heap.size → k ∉ F → w'.heap[k]? = w.heap[k]?

theorem Ext.refl (F : List Nat) (w : World) : Ext F w w := ⟨rfl, rfl, rfl, Nat.le_refl _, fun _ _ _ => rfl⟩
theorem Ext.trans {F G : List Nat} {a b c : World} (h : Ext F a b) (k : Ext G b c) (hg : ∀ x ∈ G, x ∈ F ∨ a.heap.size ≤ x) : Ext F a c :=
  ⟨k.os.trans h.os, k.tape.trans h.tape, k.output.trans h.output, Nat.le_trans h.size k.size,
    fun i hi hn => (k.block i (Nat.lt_of_lt_of_le hi h.size) (fun hx => by rcases hg i hx with h1 | h1; exact hn h1; omega)).trans (h.block i hi hn)⟩
theorem Ext.then0 {F : List Nat} {a b c : World} (h : Ext F a b) (k : Ext [] b c) : Ext F a c := h.trans k (by simp)
theorem Ext.mono {F G : List Nat} {a b : World} (h : Ext F a b) (hs : ∀ x ∈ F, x ∈ G ∨ a.heap.size ≤ x) : Ext G a b :=
  ⟨h.os, h.tape, h.output, h.size, fun i hi hn => h.block i hi (fun hx => by rcases hs i hx with h1 | h1; exact hn h1; omega)⟩
theorem Ext.alloc {F : List Nat} {a w : World} (h : Ext F a w) (o : Obj) : Ext F a (w.alloc o) :=
  h.then0 ⟨rfl, rfl, rfl, by simp, fun k hk _ => Below.heap_alloc _ _ _ (by omega)⟩
theorem Ext.drew {F : List Nat} {a w : World} (h : Ext F a w) : Ext F a w.drew := ⟨h.os, h.tape, h.output, h.size, h.block⟩
theorem Ext.setCell {F : List Nat} {a w : World} (h : Ext F a w) {p : Addr} (hp : p.block ∈ F ∨ a.heap.size ≤ p.block) (u : Value) : Ext F a (w.setCell p u) :=
  h.trans (G := [p.block]) ⟨rfl, rfl, rfl, by simp [World.setCell], fun k _ hn => Below.heap_setCell _ _ _ _ (by simpa using hn)⟩ (by simpa using hp)
theorem Ext.ofGrown {w w' : World} {row : Option Nat} (h : w.grownBy w' row) : Ext row.toList w w' :=
  ⟨h.os, h.tape, h.output, h.size, fun k hk hn => h.block k hk (fun e => hn (by rw [← e]; simp))⟩
theorem Ext.ofBelow {w w' : World} (h : Below w.heap.size w w') : Ext [] w w' := ⟨h.os, h.tape, h.output, h.size, fun k hk _ => h.block k hk⟩
theorem Ext.below {F : List Nat} {w w' : World} (h : Ext F w w') (hF : ∀ x ∈ F, w.heap.size ≤ x) : Below w.heap.size w w' :=
  ⟨h.os, h.tape, h.output, h.size, fun k hk => h.block k hk (fun hx => by have := hF k hx; omega)⟩
theorem Ext.heap {F : List Nat} {w w' : World} (h : Ext F w w') {k : Nat} (hk : k ∉ F) {o : Obj} (ho : w.heap[k]? = some o) : w'.heap[k]? = some o :=
  (h.block k (Array.getElem?_eq_some_iff.1 ho).1 hk).trans ho
theorem Ext.cell {F : List Nat} {w w' : World} (h : Ext F w w') {p : Addr} (hp : p.block ∉ F) {v : Value} (hc : w.cell? p = some v) : w'.cell? p = some v :=
  (World.cell?_of_block (w := w) (h.block p.block (World.block_lt_of_cell? w p hc) hp)).trans hc
theorem Ext.frozen {F : List Nat} {w w' : World} (h : Ext F w w') {p : Addr} (hp : p.block ∉ F) (hlt : p.block < w.heap.size) : w'.frozen? p = w.frozen? p :=
  World.frozen?_of_block (w := w) (h.block p.block hlt hp)

/-- A slice value of n elements of size cells each reads as the cells xs. -/
def Rd (w : World) (size : Nat) (v : Value) (n : Nat) (xs : List Value) : Prop :=
  xs.length = n * size ∧ ∃ a cap, v = .slice a n cap ∧ n ≤ cap ∧ cap ≤ maxLen ∧ (a = none → n = 0 ∧ cap = 0) ∧
    ∀ g, a = some g → (∀ j u, xs[j]? = some u → w.cell? (g.add j) = some u)

/-- A slice value owns the cells xs: as 'Rd', and its row may be written up to the capacity. -/
def Own (w : World) (e : TypeId) (size : Nat) (v : Value) (n : Nat) (xs : List Value) : Prop :=
  xs.length = n * size ∧
  ((v = .slice none 0 0 ∧ n = 0) ∨
   ∃ g off cap cur fz, v = .slice (some ⟨g, off, none⟩) n cap ∧ w.heap[g]? = some (.cells cur e fz) ∧ (∀ j, j < cur.size → ¬ (fz.1 ≤ j ∧ j < fz.2)) ∧
     n ≤ cap ∧ cap ≤ maxLen ∧ off + cap * size ≤ cur.size ∧ (cur.toList.drop off).take (n * size) = xs)

theorem Own.nil (w : World) (e : TypeId) (size : Nat) : Own w e size (.slice none 0 0) 0 [] := ⟨by simp, .inl ⟨rfl, rfl⟩⟩
theorem Own.lt {w : World} {e : TypeId} {size : Nat} {v : Value} {n : Nat} {xs : List Value} (h : Own w e size v n xs) : ∀ k ∈ vblocks v, k < w.heap.size := by
  rcases h.2 with ⟨rfl, _⟩ | ⟨g, off, cap, cur, fz, rfl, hg, _⟩
  · simp [vblocks]
  · simp only [vblocks, List.mem_singleton, forall_eq]
    exact (Array.getElem?_eq_some_iff.1 hg).1
theorem Own.keep {w w' : World} {e : TypeId} {size : Nat} {v : Value} {n : Nat} {xs : List Value} {F : List Nat} (h : Own w e size v n xs) (hx : Ext F w w') (hF : ∀ k ∈ vblocks v, k ∉ F) : Own w' e size v n xs := by
  refine ⟨h.1, ?_⟩
  rcases h.2 with hn | ⟨g, off, cap, cur, fz, rfl, hg, rest⟩
  · exact .inl hn
  · exact .inr ⟨g, off, cap, cur, fz, rfl, hx.heap (hF g (by simp [vblocks])) hg, rest⟩
theorem cell_row {w : World} {g : Nat} {cur : Array Value} {e : TypeId} {fz : Nat × Nat} (hg : w.heap[g]? = some (.cells cur e fz)) (j : Nat) : w.cell? ⟨g, j, none⟩ = cur[j]? := by
  simp [World.cell?, hg]
theorem getElem?_drop_take {cur : Array Value} {off m : Nat} {xs : List Value} (ht : (cur.toList.drop off).take m = xs) (j : Nat) (hj : j < m) : cur[off + j]? = xs[j]? := by
  subst ht
  rw [List.getElem?_take, if_pos hj, List.getElem?_drop]
  simp
theorem Own.rd {w : World} {e : TypeId} {size : Nat} {v : Value} {n : Nat} {xs : List Value} (h : Own w e size v n xs) : Rd w size v n xs := by
  refine ⟨h.1, ?_⟩
  rcases h.2 with ⟨rfl, rfl⟩ | ⟨g, off, cap, cur, fz, rfl, hg, hfz, hn, hm, hc, ht⟩
  · exact ⟨none, 0, rfl, Nat.le_refl _, Nat.zero_le _, fun _ => ⟨rfl, rfl⟩, fun _ h => by cases h⟩
  · refine ⟨some ⟨g, off, none⟩, cap, rfl, hn, hm, (fun h => by cases h), fun g' hg' j u hu => ?_⟩
    cases hg'
    rw [Addr.add_lit, cell_row hg, getElem?_drop_take ht j (by have := (List.getElem?_eq_some_iff.1 hu).1; rw [h.1] at this; exact this)]
    exact hu
theorem Rd.keep {w w' : World} {size : Nat} {v : Value} {n : Nat} {xs : List Value} {F : List Nat} (h : Rd w size v n xs) (hx : Ext F w w') (hF : ∀ k ∈ vblocks v, k ∉ F) : Rd w' size v n xs := by
  obtain ⟨h1, a, cap, rfl, h2, h3, h4, h5⟩ := h
  refine ⟨h1, a, cap, rfl, h2, h3, h4, fun g hg j u hu => ?_⟩
  subst hg
  refine hx.cell ?_ (h5 g rfl j u hu)
  have : (g.add j).block = g.block := by unfold Addr.add; split <;> rfl
  rw [this]
  exact hF _ (by simp [vblocks])
/-- A cell of what is owned. -/
theorem Own.cell {w : World} {e : TypeId} {size g off cap n : Nat} {xs : List Value} (h : Own w e size (.slice (some ⟨g, off, none⟩) n cap) n xs) (j : Nat) (hj : j < n * size) : w.cell? ⟨g, off + j, none⟩ = xs[j]? := by
  rcases h.2 with ⟨h', _⟩ | ⟨g', off', cap', cur, fz, h', hg, hfz, hn, hm, hc, ht⟩
  · simp at h'
  · simp only [Value.slice.injEq, Option.some.injEq, Addr.mk.injEq, and_true, true_and] at h'
    obtain ⟨⟨rfl, rfl⟩, rfl⟩ := h'
    rw [cell_row hg, getElem?_drop_take ht j hj]
theorem Own.frozen {w : World} {e : TypeId} {size g off cap n : Nat} {xs : List Value} (h : Own w e size (.slice (some ⟨g, off, none⟩) n cap) n xs) (j : Nat) (hj : j < n * size) : w.frozen? ⟨g, off + j, none⟩ = false := by
  rcases h.2 with ⟨h', _⟩ | ⟨g', off', cap', cur, fz, h', hg, hfz, hn, hm, hc, ht⟩
  · simp at h'
  · simp only [Value.slice.injEq, Option.some.injEq, Addr.mk.injEq, and_true, true_and] at h'
    obtain ⟨⟨rfl, rfl⟩, rfl⟩ := h'
    have hnc : n * size ≤ cap * size := Nat.mul_le_mul_right _ hn
    have := hfz (off + j) (by omega)
    obtain ⟨lo, hi⟩ := fz
    simp only [World.frozen?, hg, Bool.and_eq_false_iff, decide_eq_false_iff_not]
    simp only at this
    omega
/-- A store into what is owned. -/
theorem Own.store {w : World} {e : TypeId} {size g off cap n : Nat} {xs : List Value} (h : Own w e size (.slice (some ⟨g, off, none⟩) n cap) n xs) (j : Nat) (u : Value) (hj : j < n * size) :
    Own (w.setCell ⟨g, off + j, none⟩ u) e size (.slice (some ⟨g, off, none⟩) n cap) n (xs.set j u) := by
  rcases h.2 with ⟨h', _⟩ | ⟨g', off', cap', cur, fz, h', hg, hfz, hn, hm, hc, ht⟩
  · simp at h'
  · simp only [Value.slice.injEq, Option.some.injEq, Addr.mk.injEq, and_true, true_and] at h'
    obtain ⟨⟨rfl, rfl⟩, rfl⟩ := h'
    refine ⟨by simpa using h.1, .inr ⟨g, off, cap, cur.setIfInBounds (off + j) u, fz, rfl, ?_, by simpa using hfz, hn, hm, by simpa using hc, ?_⟩⟩
    · rw [setCell_eq_setRow w g (off + j) cur e fz u hg]
      exact setRow_heap w g cur _ e _ hg
    · rw [Array.toList_setIfInBounds, List.drop_set, if_neg (by omega), List.take_set, ht, Nat.add_sub_cancel_left]

/-- The head of a row of the call's own, cut at its end. -/
theorem Own.take {w : World} {e : TypeId} {size : Nat} {a : Option Addr} {cap n : Nat} {xs : List Value} (h : Own w e size (.slice a n cap) n xs) (m : Nat) (hm : m ≤ n) :
    Own w e size (.slice a m cap) m (xs.take (m * size)) := by
  have hmn : m * size ≤ n * size := Nat.mul_le_mul_right _ hm
  refine ⟨by rw [List.length_take, h.1]; omega, ?_⟩
  rcases h.2 with ⟨h', rfl⟩ | ⟨g', off', cap', cur, fz, h', hg, hfz, hn, hm', hc, ht⟩
  · simp only [Value.slice.injEq] at h'
    obtain ⟨rfl, _, rfl⟩ := h'
    exact .inl ⟨by simp; omega, by omega⟩
  · simp only [Value.slice.injEq] at h'
    obtain ⟨rfl, _, rfl⟩ := h'
    refine .inr ⟨g', off', cap, cur, fz, rfl, hg, hfz, by omega, hm', hc, ?_⟩
    rw [← ht, List.take_take, Nat.min_eq_left hmn]

theorem toList_seg (cur : List Value) (off n m : Nat) (xs news : List Value) (hx : (cur.drop off).take n = xs) (hl : xs.length = n) (hm : news.length = m) (hfit : off + n + m ≤ cur.length) :
    ((cur.take (off + n) ++ news ++ cur.drop (off + n + m)).drop off).take (n + m) = xs ++ news := by
  have e1 : (cur.take (off + n)).drop off = xs := by rw [List.drop_take, ← hx]; congr 1; omega
  have l1 : (cur.take (off + n)).length = off + n := by rw [List.length_take]; omega
  rw [List.append_assoc, List.drop_append_of_le_length (by omega), e1, ← List.append_assoc]
  exact List.take_left' (by rw [List.length_append, hl, hm])

section
variable {P : Program} (w : World)

theorem run_storeCells_un (g o : Nat) (t : TypeId) (fz : Nat × Nat) : ∀ (vs : List Value) (i : Nat) (cur : Array Value) (w : World), w.heap[g]? = some (.cells cur t fz) → (∀ j, j < cur.size → ¬ (fz.1 ≤ j ∧ j < fz.2)) → o + i + vs.length ≤ cur.size → (∀ v ∈ vs, v.oneCell' = true) →
    (storeCells ⟨g, o, none⟩ vs i).run P w = .ok () (w.setRow g (cur.toList.take (o + i) ++ vs ++ cur.toList.drop (o + i + vs.length)).toArray)
  | [], i, cur, w, hg, _, _, _ => by
    simp only [storeCells, List.append_nil, List.length_nil, Nat.add_zero, List.take_append_drop, Array.toArray_toList]
    rw [setRow_self w g cur t fz hg]
    rfl
  | v :: rest, i, cur, w, hg, hfz, hl, h1 => by
    have hi : o + i < cur.size := by simp at hl; omega
    have hadd : (⟨g, o, none⟩ : Addr).add i = ⟨g, o + i, none⟩ := Addr.add_lit g o i
    have hcell : w.cell? ⟨g, o + i, none⟩ = some cur[o + i] := by simp [World.cell?, hg, hi]
    have hfro : w.frozen? ⟨g, o + i, none⟩ = false := by
      have := hfz (o + i) hi
      obtain ⟨lo, hi'⟩ := fz
      simp only [World.frozen?, hg, Bool.and_eq_false_iff, decide_eq_false_iff_not]
      simp only at this
      omega
    have hst : (store ((⟨g, o, none⟩ : Addr).add i) v).run P w = .ok () (w.setRow g (cur.setIfInBounds (o + i) v)) := by
      rw [hadd, run_store P w _ v _ (h1 v (by simp)), hcell]
      simp [hfro, setCell_eq_setRow w g (o + i) cur t fz v hg]
    have ih := run_storeCells_un g o t fz rest (i + 1) (cur.setIfInBounds (o + i) v) (w.setRow g (cur.setIfInBounds (o + i) v)) (setRow_heap w g cur _ t _ hg) (by simpa using hfz) (by simp at hl ⊢; omega) (fun x hx => h1 x (by simp [hx]))
    simp only [storeCells, Sem.run_bind, hst, Result.andThen_ok, ih, setRow_setRow]
    congr 3
    have e := list_seg_step cur.toList (o + i) v rest (by simp at hl ⊢; omega)
    simpa [Array.toList_setIfInBounds, Nat.add_assoc] using e

theorem rd_firstCells {w : World} {size : Nat} {v : Value} {n : Nat} {xs : List Value} (h : Rd w size v n xs) : (Builtin.firstCells size n v).run P w = .ok xs.toArray w := by
  obtain ⟨h1, a, cap, rfl, h2, h3, h4, h5⟩ := h
  cases a with
  | none =>
    obtain ⟨rfl, rfl⟩ := h4 rfl
    have : xs = [] := List.eq_nil_of_length_eq_zero (by simpa using h1)
    subst this
    exact run_firstCells_none w size 0 0 0
  | some g => exact run_firstCells_some w size n g n cap xs h1 (h5 g rfl)

/-- append of a slice onto a slice that the call owns. -/
theorem run_append_Own (t ty e : TypeId) (i : TypeInfo) (z : Value) (size bytes : Nat) (ht : P.underlying t = some (.slice e)) (hi : P.info? e = some i) (hz : i.zero = some z)
    (hsize : i.size = size) (hby : i.bytes = bytes) (hzs : z.cells.size = size)
    (v : Value) (n : Nat) (xs : List Value) (hown : Own w e size v n xs) (x : Value) (m : Nat) (news : List Value) (hx : Rd w size x m news) (h1 : ∀ u ∈ news, u.oneCell' = true)
    (h63 : n + m ≤ maxLen) (hbytes : (n + m) * bytes ≤ 140737488355328) :
    ∃ v' w', (Builtin.append_ #[t, t] ty #[v, x]).run P w = .ok v' w' ∧ Own w' e size v' (n + m) (xs ++ news) ∧ Ext (vblocks v) w w' ∧
      (vblocks v' = vblocks v ∨ vblocks v' = [w.heap.size]) ∧ (m = 0 → v' = v ∧ w' = w) := by
  subst hsize
  subst hby
  have hsmall : n + m ≤ 9223372036854775807 := by simp only [maxLen] at h63; omega
  have hlen : (xs ++ news).length = (n + m) * i.size := by rw [List.length_append, hown.1, hx.1, Nat.add_mul]
  have hfx := rd_firstCells (P := P) hx
  have hfxd : (Builtin.firstCells i.size m x).run P w.drew = .ok news.toArray w.drew := rd_firstCells (P := P) (w := w.drew) hx
  have hlx : (Builtin.lenOf x).run P w = .ok m w := by obtain ⟨_, a, cap, rfl, _⟩ := hx; simp [Builtin.lenOf]
  rcases hown.2 with ⟨rfl, rfl⟩ | ⟨g, off, cap, cur, fz, rfl, hg, hfz, hnc, hcm, hcs, htake⟩
  · have hx0 : xs = [] := List.eq_nil_of_length_eq_zero (by simpa using hown.1)
    subst hx0
    by_cases hm : m = 0
    · subst hm
      have hn : news = [] := List.eq_nil_of_length_eq_zero (by simpa using hx.1)
      subst hn
      refine ⟨.slice none 0 0, w, ?_, Own.nil w e i.size, Ext.refl _ _, .inl rfl, fun _ => ⟨rfl, rfl⟩⟩
      simp [Builtin.append_, run_underlying ht, sizeOf, typeInfo, hi, hlx, hfx]
    · refine ⟨_, _, ?_, ⟨hlen, .inr ⟨w.heap.size, 0, grownCap w m 0 e, _, (0, 0), by rw [Nat.zero_add], heap_alloc_new w.drew (.cells (news.toArray ++ Builtin.zeroCells z.cells (grownCap w m 0 e - m)) e), by simp, ?_, ?_, ?_, ?_⟩⟩, (Ext.refl _ w).drew.alloc _, .inr rfl, fun h => absurd h hm⟩
      · have h48' : ¬ (281474976710656 < Builtin.nextslicecap m 0 * i.bytes) := by
          have := growslice_fits (need := m) (old := 0) (bytes := i.bytes) (by omega) (by simpa using hbytes)
          omega
        have h63' : ¬ (9223372036854775807 < (m : Int)) := by omega
        have hf0 := run_firstCells_none (P := P) w.drew i.size 0 0 0
        simp [Builtin.append_, run_underlying ht, sizeOf, typeInfo, zeroValue, hi, hz, hlx, hm, h63', h48', Question.forced, hf0, hfxd, newRow, grownCap]
      · have := grownCap_ge w m 0 e; omega
      · exact grownCap_le_maxLen w m 0 e (by simpa using h63)
      · have hge := grownCap_ge w m 0 e
        simp only [Array.size_append, List.size_toArray, size_zeroCells, hzs, hx.1, ← Nat.add_mul]
        rw [Nat.zero_add]
        exact Nat.mul_le_mul_right _ (by omega)
      · simp only [Array.toList_append, List.drop_zero, List.nil_append]
        exact List.take_left' (by simpa using hx.1)
  · have hon : off + n * i.size ≤ cur.size := Nat.le_trans (Nat.add_le_add_left (Nat.mul_le_mul_right _ hnc) _) hcs
    have hnm : (n + m) * i.size = n * i.size + m * i.size := Nat.add_mul _ _ _
    by_cases hroom : n + m ≤ cap
    · have hfit : off + n * i.size + news.length ≤ cur.size := by
        have : (n + m) * i.size ≤ cap * i.size := Nat.mul_le_mul_right _ hroom
        rw [hx.1]; omega
      have hst := run_storeCells_un (P := P) g (off + n * i.size) e fz news 0 cur w hg hfz (by simpa using hfit) h1
      simp only [Nat.add_zero] at hst
      refine ⟨.slice (some ⟨g, off, none⟩) (n + m) cap, w.setRow g (cur.toList.take (off + n * i.size) ++ news ++ cur.toList.drop (off + n * i.size + news.length)).toArray, ?_, ⟨hlen, .inr ⟨g, off, cap, _, fz, rfl, setRow_heap w g cur _ e _ hg, ?_, hroom, hcm, ?_, ?_⟩⟩, ⟨rfl, rfl, rfl, by simp, fun k _ hk => setRow_other w g k _ (fun h => hk (by simp [vblocks, h]))⟩, .inl rfl, fun h => ?_⟩
      · simp [Builtin.append_, run_underlying ht, sizeOf, typeInfo, hi, hlx, hroom, hfx, Addr.add_lit, hst]
      · intro j hj
        refine hfz j ?_
        simp only [List.size_toArray, List.length_append, List.length_take, List.length_drop, Array.length_toList] at hj
        omega
      · simp only [List.size_toArray, List.length_append, List.length_take, List.length_drop, Array.length_toList]
        omega
      · rw [hnm, List.toList_toArray, hx.1]
        exact toList_seg cur.toList off (n * i.size) (m * i.size) xs news htake hown.1 hx.1 (by rw [Array.length_toList]; have := hx.1; omega)
      · subst h
        have hn : news = [] := List.eq_nil_of_length_eq_zero (by simpa using hx.1)
        subst hn
        refine ⟨rfl, ?_⟩
        simp only [List.append_nil, List.length_nil, Nat.add_zero, List.take_append_drop, Array.toArray_toList]
        exact setRow_self w g cur e fz hg
    · have hrd := hown.rd
      obtain ⟨_, a', cap', hv', _, _, _, hcells⟩ := hrd
      simp only [Value.slice.injEq] at hv'
      obtain ⟨rfl, _, rfl⟩ := hv'
      have hfo : (Builtin.firstCells i.size n (.slice (some ⟨g, off, none⟩) n cap)).run P w.drew = .ok xs.toArray w.drew :=
        run_firstCells_some w.drew i.size n ⟨g, off, none⟩ n cap xs hown.1 (hcells _ rfl)
      have hge := grownCap_ge w (n + m) cap e
      refine ⟨_, _, ?_, ⟨hlen, .inr ⟨w.heap.size, 0, grownCap w (n + m) cap e, _, (0, 0), rfl, heap_alloc_new w.drew (.cells (xs.toArray ++ news.toArray ++ Builtin.zeroCells z.cells (grownCap w (n + m) cap e - (n + m))) e), by simp, hge, ?_, ?_, ?_⟩⟩, (Ext.refl _ w).drew.alloc _, .inr rfl, fun h => absurd h (by omega)⟩
      · have h48' : ¬ (281474976710656 < Builtin.nextslicecap (n + m) cap * i.bytes) := by
          have := growslice_fits (need := n + m) (old := cap) (bytes := i.bytes) (by omega) hbytes
          omega
        have h63' : ¬ (9223372036854775807 < ((n : Int) + (m : Int))) := by omega
        simp [Builtin.append_, run_underlying ht, sizeOf, typeInfo, zeroValue, hi, hz, hlx, hroom, h63', h48', Question.forced, hfo, hfxd, newRow, grownCap]
        congr 2
        apply Array.ext'
        simp [List.append_assoc]
      · exact grownCap_le_maxLen w (n + m) cap e h63
      · simp only [Array.size_append, List.size_toArray, size_zeroCells, hzs, hx.1, hown.1, ← Nat.add_mul]
        rw [Nat.zero_add]
        exact Nat.mul_le_mul_right _ (by omega)
      · simp only [Array.toList_append, List.drop_zero]
        exact List.take_left' (by simpa using hlen)
end
end Go.Proofs.Ytmjgbkepngeckaa
