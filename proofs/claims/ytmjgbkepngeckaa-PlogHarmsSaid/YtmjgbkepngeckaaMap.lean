/- Maps keyed by ints: what a block holds, as a function of the key; the operations on it. No function of the program is named here. -/
import Derived.Test.YtmjgbkepngeckaaBaseb
import Derived.Carry
import Derived.MapKept
import Derived.ChangeMaps5
namespace Go.Proofs.Ytmjgbkepngeckaa
open Go.RowKit Go.Lib Go.MapKept
open Go.ChangeMaps (setBlock heap_setBlock_same heap_setBlock_other)
set_option linter.unusedVariables false

def Holds (l : List MapEntry) (f : Int → Option Value) : Prop := ∀ k v, f k = some v ↔ ∃ e ∈ l, e.key = .int .i64 k ∧ e.val = v
/-- Block b is a map from ints that holds f. -/
def MapAt (w : World) (b : Nat) (f : Int → Option Value) : Prop :=
  ∃ es clock, w.heap[b]? = some (.map es clock) ∧ Stamped es clock ∧ (∀ x ∈ es.toList, IsKey (.int .i64) x.key) ∧ Holds es.toList f

theorem isKey_int {v : Value} (h : IsKey (.int .i64) v) : ∃ k, v = .int .i64 k := by
  cases v <;> simp [IsKey] at h
  subst h; exact ⟨_, rfl⟩
theorem MapAt.lt {w : World} {b : Nat} {f : Int → Option Value} (h : MapAt w b f) : b < w.heap.size := by
  obtain ⟨es, clock, hb, _⟩ := h
  exact (Array.getElem?_eq_some_iff.1 hb).1
theorem MapAt.keep {w w' : World} {b : Nat} {f : Int → Option Value} {F : List Nat} (h : MapAt w b f) (hx : Ext F w w') (hb : b ∉ F) : MapAt w' b f := by
  obtain ⟨es, clock, h1, h2⟩ := h
  exact ⟨es, clock, hx.heap hb h1, h2⟩
theorem MapAt.alloc {w : World} {b : Nat} {f : Int → Option Value} (h : MapAt w b f) (o : Obj) : MapAt (w.alloc o) b f := h.keep ((Ext.refl [] w).alloc o) (by simp)
theorem MapAt.new (w : World) : MapAt (w.alloc (.map #[] 0)) w.heap.size (fun _ => none) :=
  ⟨#[], 0, heap_alloc_new w _, stamped_empty 0, by simp, fun k v => by simp⟩
theorem MapAt.newg {w : World} {g : Nat} (hg : w.heap.size = g) : MapAt (w.alloc (.map #[] 0)) g (fun _ => none) := by subst hg; exact MapAt.new w

theorem Stamped.uniq {es : Array MapEntry} {clock : Nat} (h : Stamped es clock) {i j : Nat} {x y : MapEntry} (hi : es.toList[i]? = some x) (hj : es.toList[j]? = some y) (hk : x.key = y.key) : i = j := by
  have h3 := h.2.2
  have hi' : (es.toList.map (·.key))[i]? = some x.key := by rw [List.getElem?_map, hi]; rfl
  have hj' : (es.toList.map (·.key))[j]? = some y.key := by rw [List.getElem?_map, hj]; rfl
  have hp := List.pairwise_iff_getElem.1 h3
  obtain ⟨hi1, hi2⟩ := List.getElem?_eq_some_iff.1 hi'
  obtain ⟨hj1, hj2⟩ := List.getElem?_eq_some_iff.1 hj'
  rcases Nat.lt_trichotomy i j with hlt | he | hlt
  · exact absurd (by rw [hi2, hj2, hk]) (hp i j hi1 hj1 hlt)
  · exact he
  · exact absurd (by rw [hi2, hj2, hk]) (hp j i hj1 hi1 hlt)

theorem Holds.push {l : List MapEntry} {f : Int → Option Value} (h : Holds l f) {k : Int} {v : Value} {n : Nat} (hne : ∀ x ∈ l, x.key ≠ .int .i64 k) :
    Holds (l ++ [⟨.int .i64 k, v, n⟩]) (fun x => if x = k then some v else f x) := by
  intro k' v'
  simp only [List.mem_append, List.mem_singleton]
  by_cases hk : k' = k
  · subst hk
    show (if k' = k' then _ else _) = _ ↔ _
    rw [if_pos rfl]
    constructor
    · intro h'; cases h'; exact ⟨_, .inr rfl, rfl, rfl⟩
    · rintro ⟨e, he | rfl, h1, h2⟩
      · exact absurd h1 (hne e he)
      · simp at h2; rw [h2]
  · show (if k' = k then _ else _) = _ ↔ _
    rw [if_neg hk, h k' v']
    constructor
    · rintro ⟨e, he, h1, h2⟩; exact ⟨e, .inl he, h1, h2⟩
    · rintro ⟨e, he | rfl, h1, h2⟩
      · exact ⟨e, he, h1, h2⟩
      · simp at h1; exact absurd h1.symm hk
theorem Holds.set {es : Array MapEntry} {clock : Nat} (hs : Stamped es clock) {f : Int → Option Value} (h : Holds es.toList f) {k : Int} {v : Value} {j : Nat} {e e' : MapEntry} (hj : es.toList[j]? = some e) (hk : e.key = .int .i64 k)
    (hk' : e'.key = .int .i64 k) (hv' : e'.val = v) : Holds (es.toList.set j e') (fun x => if x = k then some v else f x) := by
  have hlt : j < es.toList.length := (List.getElem?_eq_some_iff.1 hj).1
  intro k' v'
  by_cases hkk : k' = k
  · subst hkk
    show (if k' = k' then _ else _) = _ ↔ _
    rw [if_pos rfl]
    constructor
    · intro hh; cases hh; exact ⟨e', List.mem_iff_getElem?.2 ⟨j, by rw [List.getElem?_set_self hlt]⟩, hk', hv'⟩
    · rintro ⟨x, hx, h1, h2⟩
      obtain ⟨i, hi⟩ := List.mem_iff_getElem?.1 hx
      by_cases hij : j = i
      · subst hij; rw [List.getElem?_set_self hlt] at hi; cases hi; rw [← h2, hv']
      · rw [List.getElem?_set_ne hij] at hi
        exact absurd (Stamped.uniq hs hi hj (h1.trans hk.symm)).symm hij
  · show (if k' = k then _ else _) = _ ↔ _
    rw [if_neg hkk, h k' v']
    constructor
    · rintro ⟨x, hx, h1, h2⟩
      obtain ⟨i, hi⟩ := List.mem_iff_getElem?.1 hx
      have hij : j ≠ i := by
        rintro rfl
        rw [hj] at hi; cases hi
        rw [hk] at h1; simp at h1; exact hkk h1.symm
      exact ⟨x, List.mem_iff_getElem?.2 ⟨i, by rw [List.getElem?_set_ne hij]; exact hi⟩, h1, h2⟩
    · rintro ⟨x, hx, h1, h2⟩
      obtain ⟨i, hi⟩ := List.mem_iff_getElem?.1 hx
      by_cases hij : j = i
      · subst hij; rw [List.getElem?_set_self hlt] at hi; cases hi
        rw [hk'] at h1; simp at h1; exact absurd h1.symm hkk
      · rw [List.getElem?_set_ne hij] at hi
        exact ⟨x, List.mem_iff_getElem?.2 ⟨i, hi⟩, h1, h2⟩
theorem Holds.erase {es : Array MapEntry} {clock : Nat} (hs : Stamped es clock) {f : Int → Option Value} (h : Holds es.toList f) {k : Int} {j : Nat} {e : MapEntry} (hj : es.toList[j]? = some e) (hk : e.key = .int .i64 k) :
    Holds (es.toList.eraseIdx j) (fun x => if x = k then none else f x) := by
  intro k' v'
  by_cases hkk : k' = k
  · subst hkk
    show (if k' = k' then _ else _) = _ ↔ _
    rw [if_pos rfl]
    constructor
    · intro h'; cases h'
    · rintro ⟨x, hx, h1, h2⟩
      obtain ⟨i, hi⟩ := List.mem_iff_getElem?.1 hx
      rw [List.getElem?_eraseIdx] at hi
      split at hi
      · have := Stamped.uniq hs hi hj (h1.trans hk.symm); omega
      · have := Stamped.uniq hs hi hj (h1.trans hk.symm); omega
  · show (if k' = k then _ else _) = _ ↔ _
    rw [if_neg hkk, h k' v']
    constructor
    · rintro ⟨x, hx, h1, h2⟩
      obtain ⟨i, hi⟩ := List.mem_iff_getElem?.1 hx
      have hij : j ≠ i := by
        rintro rfl
        rw [hj] at hi; cases hi
        rw [hk] at h1; simp at h1; exact hkk h1.symm
      refine ⟨x, ?_, h1, h2⟩
      by_cases hlt : i < j
      · exact List.mem_iff_getElem?.2 ⟨i, by rw [List.getElem?_eraseIdx, if_pos hlt]; exact hi⟩
      · exact List.mem_iff_getElem?.2 ⟨i - 1, by rw [List.getElem?_eraseIdx, if_neg (by omega), show i - 1 + 1 = i by omega]; exact hi⟩
    · rintro ⟨x, hx, h1, h2⟩
      exact ⟨x, List.eraseIdx_subset hx, h1, h2⟩

section
variable {P : Program} {w : World} {b : Nat} {f : Int → Option Value} {t k e : TypeId}

theorem MapAt.lookup (h : MapAt w b f) (ht : P.underlying t = some (.map k e)) (hk : P.underlying k = some (.int .i64)) {z : Value} (hz : ∀ W, (zeroValue e).run P W = .ok z W) (n : Int) :
    (Instr.lookup t (.map (some b)) (.int .i64 n) false).run P w = .ok ((f n).getD z) w := by
  obtain ⟨es, clock, hb, hs, hks, hf⟩ := h
  have hkey : IsKey (.int .i64) (.int .i64 n) := rfl
  rcases findNow_spec hkey es.toList 0 hks with ⟨h1, h2⟩ | ⟨j, x, h1, h2, h3⟩
  · have : f n = none := by
      cases hfn : f n with
      | none => rfl
      | some v => obtain ⟨x, hx, hx1, _⟩ := (hf n v).1 hfn; exact absurd hx1 (h2 x hx)
    simp [Instr.lookup, run_underlying ht, MapKept.run_getObj_map hb, run_checkKey hk hkey, run_findKey hk h1, Result.andThen, hz, this]
  · have : f n = some x.val := (hf n x.val).2 ⟨x, List.mem_iff_getElem?.2 ⟨j, h2⟩, h3, rfl⟩
    simp [Instr.lookup, run_underlying ht, MapKept.run_getObj_map hb, run_checkKey hk hkey, run_findKey hk h1, Result.andThen, this]
theorem MapAt.update (h : MapAt w b f) (ht : P.underlying t = some (.map k e)) (hk : P.underlying k = some (.int .i64)) (n : Int) (v : Value) :
    ∃ w', (Instr.mapUpdate t (.map (some b)) (.int .i64 n) v).run P w = .ok () w' ∧ MapAt w' b (fun x => if x = n then some v else f x) ∧ Ext [b] w w' := by
  obtain ⟨es, clock, hb, hs, hks, hf⟩ := h
  have hkey : IsKey (.int .i64) (.int .i64 n) := rfl
  have hext : ∀ o, Ext [b] w { w with heap := w.heap.setIfInBounds b o } := fun o =>
    ⟨rfl, rfl, rfl, by simp, fun i _ hi => (heap_set hb).2 i (by simpa using hi)⟩
  rcases findNow_spec hkey es.toList 0 hks with ⟨h1, h2⟩ | ⟨j, x, h1, h2, h3⟩
  · refine ⟨{ w with heap := w.heap.setIfInBounds b (.map (es.push { key := .int .i64 n, val := v, born := clock }) (clock + 1)) }, ?_, ⟨_, _, (heap_set hb).1, stamped_push hs h2, ?_, ?_⟩, hext _⟩
    · simp [Instr.mapUpdate, run_underlying ht, MapKept.run_getObj_map hb, run_checkKey hk hkey, run_findKey hk h1, MapKept.run_setObj_map _ hb, Result.andThen]
    · intro y hy
      simp only [Array.toList_push, List.mem_append, List.mem_singleton] at hy
      rcases hy with hy | rfl
      · exact hks y hy
      · exact hkey
    · rw [Array.toList_push]; exact hf.push h2
  · have hj : es[j]? = some x := by simpa using h2
    have hlt : j < es.toList.length := (List.getElem?_eq_some_iff.1 h2).1
    have hmod : ∀ e', es[j]? = some e' → ({ e' with key := .int .i64 n, val := v } : MapEntry).key = e'.key := fun e' he' => by rw [hj] at he'; cases he'; exact h3.symm
    refine ⟨{ w with heap := w.heap.setIfInBounds b (.map (es.modify j fun e => { e with key := .int .i64 n, val := v }) clock) }, ?_, ⟨_, _, (heap_set hb).1, stamped_modify hs _ _ (fun _ _ => rfl) (fun e' _ he' => hmod e' he'), isKey_modify hks _ _ hmod, ?_⟩, hext _⟩
    · simp [Instr.mapUpdate, run_underlying ht, MapKept.run_getObj_map hb, run_checkKey hk hkey, run_findKey hk h1, hj, h3, run_keyThatStays hkey, MapKept.run_setObj_map _ hb, Result.andThen]
    · have em : (es.modify j fun e => { e with key := .int .i64 n, val := v }).toList = es.toList.set j { x with key := .int .i64 n, val := v } := by
        rw [Array.toList_modify]
        apply List.ext_getElem?
        intro i
        rw [List.getElem?_modify, List.getElem?_set]
        by_cases hij : j = i
        · subst hij; simp only [h2, if_true, hlt]; rfl
        · simp [hij]
      rw [em]
      exact hf.set hs h2 h3 rfl rfl
theorem MapAt.delete (h : MapAt w b f) (ht : P.underlying t = some (.map k e)) (hk : P.underlying k = some (.int .i64)) (n : Int) (ty : TypeId) :
    ∃ w', (Builtin.delete_ #[t, k] ty #[.map (some b), .int .i64 n]).run P w = .ok (.tuple #[]) w' ∧ MapAt w' b (fun x => if x = n then none else f x) ∧ Ext [b] w w' := by
  obtain ⟨es, clock, hb, hs, hks, hf⟩ := h
  have hkey : IsKey (.int .i64) (.int .i64 n) := rfl
  have hext : ∀ o, Ext [b] w { w with heap := w.heap.setIfInBounds b o } := fun o =>
    ⟨rfl, rfl, rfl, by simp, fun i _ hi => (heap_set hb).2 i (by simpa using hi)⟩
  rcases findNow_spec hkey es.toList 0 hks with ⟨h1, h2⟩ | ⟨j, x, h1, h2, h3⟩
  · refine ⟨{ w with heap := w.heap.setIfInBounds b (.map es clock) }, ?_, ⟨_, _, (heap_set hb).1, hs, hks, ?_⟩, hext _⟩
    · simp [Builtin.delete_, run_underlying ht, MapKept.run_getObj_map hb, run_checkKey hk hkey, run_findKey hk h1, MapKept.run_setObj_map _ hb, Result.andThen]
    · intro k' v'
      by_cases hkk : k' = n
      · subst hkk
        show (if k' = k' then _ else _) = _ ↔ _
        rw [if_pos rfl]
        exact ⟨fun h => (by cases h), fun ⟨x, hx, hx1, _⟩ => absurd hx1 (h2 x hx)⟩
      · show (if k' = n then _ else _) = _ ↔ _
        rw [if_neg hkk]; exact hf k' v'
  · have hlt : j < es.size := by have := (List.getElem?_eq_some_iff.1 h2).1; simpa using this
    refine ⟨{ w with heap := w.heap.setIfInBounds b (.map (es.eraseIdxIfInBounds j) clock) }, ?_, ⟨_, _, (heap_set hb).1, stamped_erase hs j, ?_, ?_⟩, hext _⟩
    · simp [Builtin.delete_, run_underlying ht, MapKept.run_getObj_map hb, run_checkKey hk hkey, run_findKey hk h1, MapKept.run_setObj_map _ hb, Result.andThen]
    · intro y hy
      unfold Array.eraseIdxIfInBounds at hy
      rw [dif_pos hlt, Array.toList_eraseIdx] at hy
      exact hks y (List.eraseIdx_subset hy)
    · have em : (es.eraseIdxIfInBounds j).toList = es.toList.eraseIdx j := by
        unfold Array.eraseIdxIfInBounds
        rw [dif_pos hlt, Array.toList_eraseIdx]
      rw [em]
      exact hf.erase hs h2 h3
/-- maps.Clone's work. -/
theorem MapAt.clone (h : MapAt w b f) (ty : TypeId) : ∃ w', (Extern.MapsClone.clone #[.iface ty (.map (some b))]).run P w = .ok (.iface ty (.map (some w.heap.size))) w' ∧ MapAt w' w.heap.size f ∧ Ext [] w w' := by
  obtain ⟨es, clock, hb, hs, hks, hf⟩ := h
  refine ⟨w.alloc (.map es clock), ?_, ⟨es, clock, heap_alloc_new w _, hs, hks, hf⟩, (Ext.refl [] w).alloc _⟩
  have e : Extern.MapsClone.clone #[.iface ty (.map (some b))] = (getObj b >>= fun o => match o with
      | .map entries clock => (newObj (.map entries clock) >>= fun n => pure (.iface ty (.map (some n))))
      | _ => stuck "maps.clone: a map expected") := rfl
  rw [e]
  simp [MapKept.run_getObj_map hb, Result.andThen, go_sem]
end

/-! The total view: a key that is not there reads as z. -/
/-- A function turned at one key. -/
def updV (g : Int → Value) (n : Int) (u : Value) : Int → Value := fun x => if x = n then u else g x
def MapV (w : World) (b : Nat) (z : Value) (g : Int → Value) : Prop := ∃ f, MapAt w b f ∧ ∀ k, (f k).getD z = g k
theorem MapV.lt {w : World} {b : Nat} {z : Value} {g : Int → Value} (h : MapV w b z g) : b < w.heap.size := h.elim fun _ h => h.1.lt
theorem MapV.keep {w w' : World} {b : Nat} {z : Value} {g : Int → Value} {F : List Nat} (h : MapV w b z g) (hx : Ext F w w') (hb : b ∉ F) : MapV w' b z g := by
  obtain ⟨f, h1, h2⟩ := h; exact ⟨f, h1.keep hx hb, h2⟩
theorem MapV.alloc {w : World} {b : Nat} {z : Value} {g : Int → Value} (h : MapV w b z g) (o : Obj) : MapV (w.alloc o) b z g := h.keep ((Ext.refl [] w).alloc o) (by simp)
theorem MapV.newg {w : World} {g : Nat} (z : Value) (hg : w.heap.size = g) : MapV (w.alloc (.map #[] 0)) g z (fun _ => z) := ⟨_, MapAt.newg hg, fun _ => rfl⟩
section
variable {P : Program} {w : World} {b : Nat} {z : Value} {g : Int → Value} {t k e : TypeId}
theorem MapV.lookup (h : MapV w b z g) (ht : P.underlying t = some (.map k e)) (hk : P.underlying k = some (.int .i64)) (hz : ∀ W, (zeroValue e).run P W = .ok z W) (n : Int) :
    (Instr.lookup t (.map (some b)) (.int .i64 n) false).run P w = .ok (g n) w := by
  obtain ⟨f, h1, h2⟩ := h
  rw [h1.lookup ht hk hz n, h2]
theorem MapV.update (h : MapV w b z g) (ht : P.underlying t = some (.map k e)) (hk : P.underlying k = some (.int .i64)) (n : Int) (v : Value) :
    ∃ w', (Instr.mapUpdate t (.map (some b)) (.int .i64 n) v).run P w = .ok () w' ∧ MapV w' b z (updV g n v) ∧ Ext [b] w w' := by
  obtain ⟨f, h1, h2⟩ := h
  obtain ⟨w', hr, hm, hx⟩ := h1.update ht hk n v
  exact ⟨w', hr, ⟨_, hm, fun x => by unfold updV; split <;> simp [h2]⟩, hx⟩
theorem MapV.delete (h : MapV w b z g) (ht : P.underlying t = some (.map k e)) (hk : P.underlying k = some (.int .i64)) (n : Int) (ty : TypeId) :
    ∃ w', (Builtin.delete_ #[t, k] ty #[.map (some b), .int .i64 n]).run P w = .ok (.tuple #[]) w' ∧ MapV w' b z (updV g n z) ∧ Ext [b] w w' := by
  obtain ⟨f, h1, h2⟩ := h
  obtain ⟨w', hr, hm, hx⟩ := h1.delete ht hk n ty
  exact ⟨w', hr, ⟨_, hm, fun x => by unfold updV; split <;> simp [h2]⟩, hx⟩
theorem MapV.clone (h : MapV w b z g) (ty : TypeId) : ∃ w', (Extern.MapsClone.clone #[.iface ty (.map (some b))]).run P w = .ok (.iface ty (.map (some w.heap.size))) w' ∧ MapV w' w.heap.size z g ∧ Ext [] w w' := by
  obtain ⟨f, h1, h2⟩ := h
  obtain ⟨w', hr, hm, hx⟩ := h1.clone (P := P) ty
  exact ⟨w', hr, ⟨f, hm, h2⟩, hx⟩
theorem MapV.cast (h : MapV w b z g) {g' : Int → Value} (hg : ∀ x, g x = g' x) : MapV w b z g' := by
  obtain ⟨f, h1, h2⟩ := h; exact ⟨f, h1, fun k => (h2 k).trans (hg k)⟩

/-- The operations in the walk's form. -/
theorem wpl_mapset {ops : Array Oper} {rest : List Oper} {a : Act} {Q : Exit → Act → World → Prop} {d : Option Tmp} {m x v : Operand} {ty : TypeId} {pos : String} {after : Array Edge}
    (ht : P.underlying t = some (.map k e)) (hk : P.underlying k = some (.int .i64)) (h : MapV w b z g) (n : Int) (u : Value)
    (hm : a.eval m = .map (some b)) (hx : a.eval x = .int .i64 n) (hv : a.eval v = u)
    (hK : ∀ w', MapV w' b z (updV g n u) → Ext [b] w w' → wpList P ops Q rest (a.put d undef) w') :
    wpList P ops Q (⟨d, .mapUpdate t m x v, ty, pos, after, none⟩ :: rest) a w := by
  refine wpList_plain rfl fun K' hK' => ?_
  obtain ⟨w', hrun, r1, r2⟩ := h.update ht hk n u
  unfold Oper.wp
  simp [execOp, hm, hx, hv, hrun, Result.andThen]
  exact hK' _ _ (hK w' r1 r2)
theorem wpl_mapdel {ops : Array Oper} {rest : List Oper} {a : Act} {Q : Exit → Act → World → Prop} {d : Option Tmp} {m x : Operand} {ty : TypeId} {pos : String} {after : Array Edge}
    (ht : P.underlying t = some (.map k e)) (hk : P.underlying k = some (.int .i64)) (h : MapV w b z g) (n : Int)
    (hm : a.eval m = .map (some b)) (hx : a.eval x = .int .i64 n)
    (hK : ∀ w', MapV w' b z (updV g n z) → Ext [b] w w' → wpList P ops Q rest (a.put d (.tuple #[])) w') :
    wpList P ops Q (⟨d, .call { callee := .builtin .delete, args := #[m, x], argTypes := #[t, k] }, ty, pos, after, none⟩ :: rest) a w := by
  refine wpList_plain rfl fun K' hK' => ?_
  obtain ⟨w', hrun, r1, r2⟩ := h.delete ht hk n ty
  unfold Oper.wp
  simp [execOp, resolve, invoke, builtin, hm, hx, hrun, Result.andThen]
  exact hK' _ _ (hK w' r1 r2)
end
end Go.Proofs.Ytmjgbkepngeckaa
