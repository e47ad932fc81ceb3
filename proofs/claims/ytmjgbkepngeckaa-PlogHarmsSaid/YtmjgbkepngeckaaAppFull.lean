/- append onto a slice that is full: the old row is only read, the new one is fresh. No function of the program is named here. -/
import Derived.Test.YtmjgbkepngeckaaStep
namespace Go.Proofs.Ytmjgbkepngeckaa
open Go.RowKit
set_option linter.unusedVariables false
set_option linter.unusedSimpArgs false

section
variable {P : Program} {w : World}
theorem run_append_full (t ty e : TypeId) (i : TypeInfo) (z : Value) (size bytes : Nat) (ht : P.underlying t = some (.slice e)) (hi : P.info? e = some i) (hz : i.zero = some z)
    (hsize : i.size = size) (hby : i.bytes = bytes) (hzs : z.cells.size = size)
    (a : Option Addr) (n : Nat) (xs : List Value) (hv : Rd w size (.slice a n n) n xs) (x : Value) (m : Nat) (news : List Value) (hx : Rd w size x m news)
    (h63 : n + m ≤ maxLen) (hbytes : (n + m) * bytes ≤ 140737488355328) :
    ∃ v' w', (Builtin.append_ #[t, t] ty #[.slice a n n, x]).run P w = .ok v' w' ∧ Rd w' size v' (n + m) (xs ++ news) ∧ Ext [] w w' ∧
      ((m = 0 ∧ v' = .slice a n n ∧ w' = w) ∨ (vblocks v' = [w.heap.size] ∧ w.heap.size < w'.heap.size)) := by
  subst hsize
  subst hby
  have hsmall : n + m ≤ 9223372036854775807 := by simp only [maxLen] at h63; omega
  have hlen : (xs ++ news).length = (n + m) * i.size := by rw [List.length_append, hv.1, hx.1, Nat.add_mul]
  have hfx := rd_firstCells (P := P) hx
  have hfxd : (Builtin.firstCells i.size m x).run P w.drew = .ok news.toArray w.drew := rd_firstCells (P := P) (w := w.drew) hx
  have hfo : (Builtin.firstCells i.size n (.slice a n n)).run P w.drew = .ok xs.toArray w.drew := rd_firstCells (P := P) (w := w.drew) hv
  have hlx : (Builtin.lenOf x).run P w = .ok m w := by obtain ⟨_, a, cap, rfl, _⟩ := hx; simp [Builtin.lenOf]
  by_cases hm : m = 0
  · subst hm
    have hn : news = [] := List.eq_nil_of_length_eq_zero (by simpa using hx.1)
    subst hn
    refine ⟨.slice a n n, w, ?_, by rw [List.append_nil]; exact hv, Ext.refl _ _, .inl ⟨rfl, rfl, rfl⟩⟩
    cases a with
    | none => simp [Builtin.append_, run_underlying ht, sizeOf, typeInfo, hi, hlx, hfx]
    | some g => simp [Builtin.append_, run_underlying ht, sizeOf, typeInfo, hi, hlx, hfx, storeCells]
  · have hroom : ¬ n + m ≤ n := by omega
    have hge := grownCap_ge w (n + m) n e
    have hown : Own (w.drew.alloc (.cells (xs.toArray ++ news.toArray ++ Builtin.zeroCells z.cells (grownCap w (n + m) n e - (n + m))) e)) e i.size (.slice (some ⟨w.heap.size, 0, none⟩) (n + m) (grownCap w (n + m) n e)) (n + m) (xs ++ news) := by
      refine ⟨hlen, .inr ⟨w.heap.size, 0, grownCap w (n + m) n e, _, (0, 0), rfl, heap_alloc_new w.drew (.cells (xs.toArray ++ news.toArray ++ Builtin.zeroCells z.cells (grownCap w (n + m) n e - (n + m))) e), by simp, hge, grownCap_le_maxLen w (n + m) n e h63, ?_, ?_⟩⟩
      · simp only [Array.size_append, List.size_toArray, size_zeroCells, hzs, hx.1, hv.1, ← Nat.add_mul]
        rw [Nat.zero_add]
        exact Nat.mul_le_mul_right _ (by omega)
      · simp only [Array.toList_append, List.drop_zero]
        exact List.take_left' (by simpa using hlen)
    refine ⟨_, _, ?_, hown.rd, (Ext.refl _ w).drew.alloc _, .inr ⟨rfl, by simp⟩⟩
    have h48' : ¬ (281474976710656 < Builtin.nextslicecap (n + m) n * i.bytes) := by
      have := growslice_fits (need := n + m) (old := n) (bytes := i.bytes) (by omega) hbytes
      omega
    have h63' : ¬ (9223372036854775807 < ((n : Int) + (m : Int))) := by omega
    simp [Builtin.append_, run_underlying ht, sizeOf, typeInfo, zeroValue, hi, hz, hlx, hroom, h63', h48', Question.forced, hfo, hfxd, newRow, grownCap]
    try (congr 2; apply Array.ext'; simp [List.append_assoc])
theorem wpl_append_full {ops : Array Oper} {rest : List Oper} {a : Act} {Q : Exit → Act → World → Prop} {d : Option Tmp} {s x : Operand} {t ty : TypeId} {pos : String} {after : Array Edge}
    (e : TypeId) (z : Value) (size bytes : Nat) (hel : Elem P t e z size bytes)
    (b : Option Addr) (n : Nat) (xs : List Value) (hs : a.eval s = .slice b n n) (hv : Rd w size (.slice b n n) n xs)
    (vx : Value) (m : Nat) (news : List Value) (hx : a.eval x = vx) (hrd : Rd w size vx m news)
    (hbytes : (n + m) * bytes ≤ 140737488355328) (h63 : n + m ≤ maxLen)
    (h : ∀ v' w', Rd w' size v' (n + m) (xs ++ news) → Ext [] w w' → ((m = 0 ∧ v' = .slice b n n ∧ w' = w) ∨ (vblocks v' = [w.heap.size] ∧ w.heap.size < w'.heap.size)) → wpList P ops Q rest (a.put d v') w') :
    wpList P ops Q (⟨d, .call { callee := .builtin .append, args := #[s, x], argTypes := #[t, t] }, ty, pos, after, none⟩ :: rest) a w := by
  refine wpList_plain rfl fun K hK => ?_
  obtain ⟨ht, hzs, i, hi, hz, hsize, hby⟩ := hel
  obtain ⟨v', w', hr, h2, h3, h4⟩ := run_append_full (P := P) (w := w) t ty e i z size bytes ht hi hz hsize hby hzs b n xs hv vx m news hrd h63 hbytes
  unfold Oper.wp execOp
  simp only [resolve, invoke, builtin, Sem.run_bind, Sem.run_pure, Result.andThen_ok, List.map_toArray, List.map_cons, List.map_nil, hs, hx, hr]
  exact hK _ _ (h v' w' h2 h3 h4)
theorem wp_append_full {o : Oper} {a : Act} {K : Act → World → Prop} {Q : Exit → Act → World → Prop} (s x : Operand) (t : TypeId) (hop : o.op = Op.call { callee := Callee.builtin Builtin.append, args := #[s, x], argTypes := #[t, t] })
    (e : TypeId) (z : Value) (size bytes : Nat) (hel : Elem P t e z size bytes)
    (b : Option Addr) (n : Nat) (xs : List Value) (hs : a.eval s = .slice b n n) (hv : Rd w size (.slice b n n) n xs)
    (vx : Value) (m : Nat) (news : List Value) (hx : a.eval x = vx) (hrd : Rd w size vx m news)
    (hbytes : (n + m) * bytes ≤ 140737488355328) (h63 : n + m ≤ maxLen)
    (hK : ∀ v' w', Rd w' size v' (n + m) (xs ++ news) → Ext [] w w' → ((m = 0 ∧ v' = .slice b n n ∧ w' = w) ∨ (vblocks v' = [w.heap.size] ∧ w.heap.size < w'.heap.size)) → K (a.put o.dst v') w') : o.wp P a w K Q := by
  obtain ⟨ht, hzs, i, hi, hz, hsize, hby⟩ := hel
  obtain ⟨v', w', hr, h2, h3, h4⟩ := run_append_full (P := P) (w := w) t o.type e i z size bytes ht hi hz hsize hby hzs b n xs hv vx m news hrd h63 hbytes
  unfold Oper.wp
  simp [execOp, hop, resolve, invoke, builtin, hs, hx, hr, Result.andThen]
  exact hK _ _ h2 h3 h4
end
/-- A full view of an entry list's front, and of what is behind. -/
theorem Rd.full {w : World} {size : Nat} {a : Option Addr} {n cap : Nat} {xs : List Value} (h : Rd w size (.slice a n cap) n xs) : Rd w size (.slice a n n) n xs := by
  obtain ⟨h1, a', cap', e, h2, h3, h4, h5⟩ := h
  simp only [Value.slice.injEq] at e
  obtain ⟨rfl, _, rfl⟩ := e
  exact ⟨h1, a, n, rfl, Nat.le_refl _, by omega, fun h => ⟨(h4 h).1, (h4 h).1⟩, h5⟩
theorem Rd.front {w : World} {size : Nat} {a : Option Addr} {n cap : Nat} {xs : List Value} (h : Rd w size (.slice a n cap) n xs) (m : Nat) (hm : m ≤ n) : Rd w size (.slice a m cap) m (xs.take (m * size)) := by
  obtain ⟨h1, a', cap', e, h2, h3, h4, h5⟩ := h
  simp only [Value.slice.injEq] at e
  obtain ⟨rfl, _, rfl⟩ := e
  refine ⟨by rw [List.length_take, h1]; exact Nat.min_eq_left (Nat.mul_le_mul_right _ hm), a, cap, rfl, by omega, h3, fun h => ⟨by have := (h4 h).1; omega, (h4 h).2⟩, fun g hg j u hu => h5 g hg j u ?_⟩
  rw [List.getElem?_take] at hu
  split at hu
  · exact hu
  · cases hu
theorem Rd.back {w : World} {size g off n cap : Nat} {xs : List Value} (h : Rd w size (.slice (some ⟨g, off, none⟩) n cap) n xs) (m : Nat) (hm : m ≤ n) : Rd w size (.slice (some ⟨g, off + m * size, none⟩) (n - m) (cap - m)) (n - m) (xs.drop (m * size)) := by
  obtain ⟨h1, a', cap', e, h2, h3, h4, h5⟩ := h
  simp only [Value.slice.injEq] at e
  obtain ⟨rfl, _, rfl⟩ := e
  refine ⟨by rw [List.length_drop, h1, Nat.sub_mul], _, _, rfl, by omega, by omega, (fun h => by cases h), fun g' hg j u hu => ?_⟩
  cases hg
  rw [List.getElem?_drop] at hu
  have := h5 _ rfl _ u hu
  rw [Addr.add_lit] at this ⊢
  rwa [Nat.add_assoc]
theorem Rd.zero {w : World} {size : Nat} {a : Option Addr} {n cap : Nat} {xs : List Value} (h : Rd w size (.slice a n cap) n xs) (hn : n = cap) : Rd w size (.slice a 0 0) 0 [] := by
  obtain ⟨h1, a', cap', e, h2, h3, h4, h5⟩ := h
  exact ⟨by simp, a, 0, rfl, Nat.le_refl _, by omega, fun _ => ⟨rfl, rfl⟩, fun g hg j u hu => by simp at hu⟩
theorem Rd.blt {w : World} {size : Nat} {a : Option Addr} {n cap : Nat} {xs : List Value} (h : Rd w size (.slice a n cap) n xs) (hn : 0 < n * size) : ∀ z ∈ vblocks (.slice a n cap), z < w.heap.size := by
  obtain ⟨g, off, rfl, _, hc⟩ := h.view hn
  intro z hz
  simp [vblocks] at hz
  subst hz
  have hl := h.len.2.2.2
  have := hc 0 xs[0] (by rw [List.getElem?_eq_getElem])
  exact World.block_lt_of_cell? w _ this
theorem Rd.ofBlk {w : World} {z : Nat} {t : TypeId} {cs : List Value} {size n : Nat} (hb : Blk w z t cs) (hl : cs.length = n * size) (hm : n ≤ maxLen) : Rd w size (.slice (some ⟨z, 0, none⟩) n n) n cs :=
  ⟨hl, some ⟨z, 0, none⟩, n, rfl, Nat.le_refl _, hm, (fun h => by cases h), fun g hg j u hu => by cases hg; rw [Addr.add_lit, Nat.zero_add, Blk.c hb j]; exact hu⟩
end Go.Proofs.Ytmjgbkepngeckaa
