/- Ranging over a map keyed by ints, with deletes in the round. No function of the program is named here. -/
import Derived.Test.YtmjgbkepngeckaaMap
import Derived.Maps.RangeRun
import Derived.Maps.RangeWalk
namespace Go.Proofs.Ytmjgbkepngeckaa
open Go.RowKit Go.Lib Go.MapKept
open Go.ChangeMaps (setBlock heap_setBlock_same heap_setBlock_other)
set_option linter.unusedVariables false
set_option linter.unusedSimpArgs false

/-- Block r is an iterator over the map in block b; left: the keys that are still to come; cnt: how many. -/
structure MapIt (w : World) (b r : Nat) (f : Int → Option Value) (left : Int → Prop) (cnt : Nat) : Prop where
  ne : b ≠ r
  ex : ∃ es clock since seen c0, w.heap[b]? = some (.map es clock) ∧ w.heap[r]? = some (.mapIter (some b) since seen c0) ∧ Stamped es clock ∧ (∀ x ∈ es.toList, IsKey (.int .i64) x.key) ∧ Holds es.toList f ∧ (∀ x ∈ es.toList, x.born < since) ∧ since ≤ c0 ∧ since ≤ clock ∧ (leftOf es seen).size = cnt ∧ (∀ k, left k ↔ ∃ x ∈ es.toList, x.key = .int .i64 k ∧ seen.contains x.born = false)
theorem MapIt.at {w : World} {b r : Nat} {f : Int → Option Value} {left : Int → Prop} {cnt : Nat} (h : MapIt w b r f left cnt) : MapAt w b f := by
  obtain ⟨es, clock, since, seen, c0, h1, h2, h4, h5, h6, h7⟩ := h.ex
  exact ⟨es, clock, h1, h4, h5, h6⟩
theorem MapIt.lt {w : World} {b r : Nat} {f : Int → Option Value} {left : Int → Prop} {cnt : Nat} (h : MapIt w b r f left cnt) : r < w.heap.size := by
  obtain ⟨es, clock, since, seen, c0, h1, h2, _⟩ := h.ex
  exact (Array.getElem?_eq_some_iff.1 h2).1
/-- How many are still to come: a number that hangs on the world alone. -/
def itLeft (w : World) (b r : Nat) : Nat := match w.heap[b]?, w.heap[r]? with
  | some (.map es _), some (.mapIter _ _ seen _) => (leftOf es seen).size
  | _, _ => 0
theorem MapIt.cnt {w : World} {b r : Nat} {f : Int → Option Value} {left : Int → Prop} {cnt : Nat} (h : MapIt w b r f left cnt) : itLeft w b r = cnt := by
  obtain ⟨es, clock, since, seen, c0, h1, h2, h4, h5, h6, h7, h8, h9, h10, h11⟩ := h.ex
  unfold itLeft
  rw [h1, h2]
  exact h10
variable {P : Program} {w : World} {b r : Nat} {f : Int → Option Value} {t k e : TypeId}
theorem MapAt.range (h : MapAt w b f) (ht : P.underlying t = some (.map k e)) :
    ∃ w', (Instr.range t (.map (some b))).run P w = .ok (.pointer (some ⟨w.heap.size, 0, none⟩)) w' ∧ Ext [] w w' ∧ w.heap.size < w'.heap.size ∧ ∃ cnt, MapIt w' b w.heap.size f (fun x => f x ≠ none) cnt := by
  have hlt := h.lt
  obtain ⟨es, clock, hb, hs, hks, hf⟩ := h
  refine ⟨_, run_range_map w t k e b es clock ht hb, (Ext.refl _ _).alloc _, by simp, _, ⟨by omega, es, clock, clock, #[], clock, ?_, heap_alloc_new w _, hs, hks, hf, fun x hx => hs.1 x hx, Nat.le_refl _, Nat.le_refl _, rfl, fun x => ?_⟩⟩
  · rw [heap_alloc_old w _ hlt]; exact hb
  · constructor
    · intro hx
      obtain ⟨v, hv⟩ := Option.ne_none_iff_exists'.1 hx
      obtain ⟨y, hy, hk, _⟩ := (hf x v).1 hv
      exact ⟨y, hy, hk, by simp⟩
    · rintro ⟨y, hy, hk, _⟩ hx
      have := (hf x y.val).2 ⟨y, hy, hk, rfl⟩
      rw [hx] at this
      cases this
theorem ext_setBlock {w : World} {r : Nat} (o : Obj) : Ext [r] w (setBlock w r o) :=
  ⟨rfl, rfl, rfl, by simp [setBlock], fun i _ hi => by
    have hne : i ≠ r := by simpa using hi
    simp [setBlock, Array.getElem?_setIfInBounds, Ne.symm hne]⟩
theorem MapIt.next {left : Int → Prop} {cnt : Nat} (h : MapIt w b r f left cnt) (ty : TypeId) :
    ((∀ x, ¬ left x) ∧ (Instr.next (.pointer (some ⟨r, 0, none⟩)) false ty).run P w = .ok (.tuple #[.bool false]) w) ∨
    ∃ (x : Int) (v : Value) (w' : World) (cnt' : Nat), left x ∧ f x = some v ∧ (Instr.next (.pointer (some ⟨r, 0, none⟩)) false ty).run P w = .ok (.tuple #[.bool true, .int .i64 x, v]) w' ∧
      (Instr.entry (.pointer (some ⟨r, 0, none⟩))).run P w' = .ok (.tuple #[.int .i64 x, v]) w' ∧ Ext [r] w w' ∧ cnt' < cnt ∧ MapIt w' b r f (fun z => left z ∧ z ≠ x) cnt' := by
  have hne := h.ne
  obtain ⟨es, clock, since, seen, c0, hb, hr, hs, hks, hf, hold, hsc, hsk, hc, hl⟩ := h.ex
  rcases run_next_at (P := P) w ty r b since c0 seen es clock hr hb hold hsc with ⟨h0, hrun⟩ | ⟨y, hy, w1, hw1, hrun⟩
  · left
    refine ⟨fun x hx => ?_, hrun⟩
    obtain ⟨y, hy, hk, hsn⟩ := (hl x).1 hx
    have : y ∈ leftOf es seen := Array.mem_filter.2 ⟨by simpa using hy, by rw [hsn]; rfl⟩
    have hz : leftOf es seen = #[] := Array.eq_empty_of_size_eq_zero h0
    rw [hz] at this
    simp at this
  · right
    obtain ⟨hye, hyn⟩ := mem_left hy
    obtain ⟨x, hx⟩ := isKey_int (hks y hye)
    have hw : Ext [] w w1 := by
      rcases hw1 with rfl | rfl
      · exact Ext.refl _ _
      · exact (Ext.refl _ _).drew
    have hh1 : w1.heap = w.heap := by rcases hw1 with rfl | rfl <;> rfl
    have hrl : r < w1.heap.size := by rw [hh1]; exact (Array.getElem?_eq_some_iff.1 hr).1
    have hb1 : (setBlock w1 r (.mapIter (some b) since (seen.push y.born) clock)).heap[b]? = some (.map es clock) := by
      simp [setBlock, Array.getElem?_setIfInBounds, Ne.symm hne, hh1, hb]
    have hr1 : (setBlock w1 r (.mapIter (some b) since (seen.push y.born) clock)).heap[r]? = some (.mapIter (some b) since (seen.push y.born) clock) := by
      simp [setBlock, Array.getElem?_setIfInBounds, hrl]
    have hst := (stamped_iff es clock).1 hs
    refine ⟨x, y.val, _, (leftOf es (seen.push y.born)).size, (hl x).2 ⟨y, hye, hx, hyn⟩, (hf x y.val).2 ⟨y, hye, hx, rfl⟩, by rw [hrun, hx], ?_, (hw.mono (F := []) (G := [r]) (by simp)).trans (ext_setBlock _) (by simp), by rw [← hc]; exact left_shrinks es seen y hy, ⟨hne, es, clock, since, _, clock, hb1, hr1, hs, hks, hf, hold, hsk, hsk, rfl, fun z => ?_⟩⟩
    · rw [run_entry_at _ r b since seen es clock y hr1 hb1 hye hst.2.1, hx]
    · constructor
      · rintro ⟨hz, hzx⟩
        obtain ⟨u, hu, huk, hun⟩ := (hl z).1 hz
        refine ⟨u, hu, huk, ?_⟩
        rw [contains_push, hun, Bool.false_or]
        cases hc2 : u.born == y.born with
        | false => rfl
        | true =>
          have h2 := find_born u es.toList hst.2.1 hu
          rw [beq_iff_eq.1 hc2, find_born y es.toList hst.2.1 hye] at h2
          have : y = u := Option.some.inj h2
          rw [← this, hx] at huk
          cases huk
          exact absurd rfl hzx
      · rintro ⟨u, hu, huk, hun⟩
        rw [contains_push, Bool.or_eq_false_iff] at hun
        refine ⟨(hl z).2 ⟨u, hu, huk, hun.1⟩, ?_⟩
        rintro rfl
        obtain ⟨i, hi⟩ := List.mem_iff_getElem?.1 hu
        obtain ⟨j, hj⟩ := List.mem_iff_getElem?.1 hye
        have hij := Stamped.uniq hs hi hj (huk.trans hx.symm)
        rw [hij, hj] at hi
        cases hi
        simp at hun
theorem leftOf_erase (es : Array MapEntry) (seen : Array Nat) (j : Nat) : (leftOf (es.eraseIdxIfInBounds j) seen).size ≤ (leftOf es seen).size := by
  have e1 : ∀ (l : Array MapEntry) (p : MapEntry → Bool), (l.filter p).size = (l.toList.filter p).length := fun l p => by rw [← Array.toList_filter, Array.length_toList]
  unfold leftOf
  rw [e1, e1]
  refine List.Sublist.length_le (List.Sublist.filter _ ?_)
  unfold Array.eraseIdxIfInBounds
  split
  · rw [Array.toList_eraseIdx]; exact List.eraseIdx_sublist _ _
  · exact List.Sublist.refl _
theorem MapIt.del {left : Int → Prop} {cnt : Nat} (h : MapIt w b r f left cnt) (ht : P.underlying t = some (.map k e)) (hk : P.underlying k = some (.int .i64)) (n : Int) (ty : TypeId) :
    ∃ w' cnt', (Builtin.delete_ #[t, k] ty #[.map (some b), .int .i64 n]).run P w = .ok (.tuple #[]) w' ∧ cnt' ≤ cnt ∧ MapIt w' b r (fun x => if x = n then none else f x) (fun x => left x ∧ x ≠ n) cnt' ∧ Ext [b] w w' := by
  have hne := h.ne
  obtain ⟨es, clock, since, seen, c0, hb, hr, hs, hks, hf, hold, hsc, hsk, hc, hl⟩ := h.ex
  have hkey : IsKey (.int .i64) (.int .i64 n) := rfl
  have hext : ∀ o, Ext [b] w { w with heap := w.heap.setIfInBounds b o } := fun o =>
    ⟨rfl, rfl, rfl, by simp, fun i _ hi => (heap_set hb).2 i (by simpa using hi)⟩
  rcases findNow_spec hkey es.toList 0 hks with ⟨h1, h2⟩ | ⟨j, x, h1, h2, h3⟩
  · refine ⟨{ w with heap := w.heap.setIfInBounds b (.map es clock) }, cnt, ?_, Nat.le_refl _, ⟨hne, es, clock, since, seen, c0, (heap_set hb).1, by rw [(heap_set hb).2 r (Ne.symm hne)]; exact hr, hs, hks, ?_, hold, hsc, hsk, hc, fun z => ?_⟩, hext _⟩
    · simp [Builtin.delete_, run_underlying ht, MapKept.run_getObj_map hb, run_checkKey hk hkey, run_findKey hk h1, MapKept.run_setObj_map _ hb, Result.andThen]
    · intro k' v'
      by_cases hkk : k' = n
      · subst hkk
        show (if k' = k' then _ else _) = _ ↔ _
        rw [if_pos rfl]
        exact ⟨fun h => (by cases h), fun ⟨x, hx, hx1, _⟩ => absurd hx1 (h2 x hx)⟩
      · show (if k' = n then _ else _) = _ ↔ _
        rw [if_neg hkk]; exact hf k' v'
    · constructor
      · rintro ⟨hz, _⟩; exact (hl z).1 hz
      · rintro ⟨u, hu, huk, hun⟩
        exact ⟨(hl z).2 ⟨u, hu, huk, hun⟩, by rintro rfl; exact h2 u hu huk⟩
  · have hlt : j < es.size := by have := (List.getElem?_eq_some_iff.1 h2).1; simpa using this
    have em : (es.eraseIdxIfInBounds j).toList = es.toList.eraseIdx j := by
      unfold Array.eraseIdxIfInBounds
      rw [dif_pos hlt, Array.toList_eraseIdx]
    have hsub : ∀ y ∈ (es.eraseIdxIfInBounds j).toList, y ∈ es.toList := fun y hy => by rw [em] at hy; exact List.eraseIdx_subset hy
    have hf' : Holds (es.eraseIdxIfInBounds j).toList (fun x => if x = n then none else f x) := by rw [em]; exact hf.erase hs h2 h3
    refine ⟨{ w with heap := w.heap.setIfInBounds b (.map (es.eraseIdxIfInBounds j) clock) }, (leftOf (es.eraseIdxIfInBounds j) seen).size, ?_, by rw [← hc]; exact leftOf_erase es seen j, ⟨hne, _, clock, since, seen, c0, (heap_set hb).1, by rw [(heap_set hb).2 r (Ne.symm hne)]; exact hr, stamped_erase hs j, fun y hy => hks y (hsub y hy), hf', fun y hy => hold y (hsub y hy), hsc, hsk, rfl, fun z => ?_⟩, hext _⟩
    · simp [Builtin.delete_, run_underlying ht, MapKept.run_getObj_map hb, run_checkKey hk hkey, run_findKey hk h1, MapKept.run_setObj_map _ hb, Result.andThen]
    · constructor
      · rintro ⟨hz, hzn⟩
        obtain ⟨u, hu, huk, hun⟩ := (hl z).1 hz
        have h5 := (hf z u.val).2 ⟨u, hu, huk, rfl⟩
        obtain ⟨y, hy, hyk, hyv⟩ := (hf' z u.val).1 (by show (if z = n then none else f z) = _; rw [if_neg hzn]; exact h5)
        refine ⟨y, hy, hyk, ?_⟩
        obtain ⟨i, hi⟩ := List.mem_iff_getElem?.1 hu
        obtain ⟨i', hi'⟩ := List.mem_iff_getElem?.1 (hsub y hy)
        have hij := Stamped.uniq hs hi hi' (huk.trans hyk.symm)
        rw [hij, hi'] at hi
        cases hi
        exact hun
      · rintro ⟨u, hu, huk, hun⟩
        refine ⟨(hl z).2 ⟨u, hsub u hu, huk, hun⟩, ?_⟩
        rintro rfl
        have := (hf' z u.val).2 ⟨u, hu, huk, rfl⟩
        simp at this
section
variable {ops : Array Oper} {rest : List Oper} {a : Act} {Q : Exit → Act → World → Prop} {d : Option Tmp} {ty : TypeId} {pos : String} {after : Array Edge}
theorem wpl_maprange {m : Operand} (ht : P.underlying t = some (.map k e)) (h : MapAt w b f) (hm : a.eval m = .map (some b))
    (hK : ∀ w' cnt, MapIt w' b w.heap.size f (fun x => f x ≠ none) cnt → Ext [] w w' → w.heap.size < w'.heap.size → wpList P ops Q rest (a.put d (.pointer (some ⟨w.heap.size, 0, none⟩))) w') :
    wpList P ops Q (⟨d, .range t m, ty, pos, after, none⟩ :: rest) a w := by
  refine wpList_plain rfl fun K' hK' => ?_
  obtain ⟨w', hrun, r1, r2, cnt, r3⟩ := h.range ht
  unfold Oper.wp
  simp [execOp, hm, hrun, Result.andThen]
  exact hK' _ _ (hK w' cnt r3 r1 r2)
theorem wpl_mapnext {it : Operand} {left : Int → Prop} {cnt : Nat} (h : MapIt w b r f left cnt) (hit : a.eval it = .pointer (some ⟨r, 0, none⟩))
    (hDone : (∀ x, ¬ left x) → wpList P ops Q rest (a.put d (.tuple #[.bool false])) w)
    (hMore : ∀ (x : Int) (v : Value) (w' : World) (cnt' : Nat), left x → f x = some v → MapIt w' b r f (fun z => left z ∧ z ≠ x) cnt' → cnt' < cnt → Ext [r] w w' → (Instr.entry (.pointer (some ⟨r, 0, none⟩))).run P w' = .ok (.tuple #[.int .i64 x, v]) w' →
      wpList P ops Q rest (a.put d (.tuple #[.bool true, .int .i64 x, v])) w') :
    wpList P ops Q (⟨d, .next it false, ty, pos, after, none⟩ :: rest) a w := by
  refine wpList_plain rfl fun K' hK' => ?_
  unfold Oper.wp
  rcases h.next (P := P) ty with ⟨hl, hrun⟩ | ⟨x, v, w', cnt', hlx, hfx, hrun, hen, hx, hlt, hit'⟩
  · simp [execOp, hit, hrun, Result.andThen]
    exact hK' _ _ (hDone hl)
  · simp [execOp, hit, hrun, Result.andThen]
    exact hK' _ _ (hMore x v w' cnt' hlx hfx hit' hlt hx hen)
theorem wpl_itdel {m x : Operand} {left : Int → Prop} {cnt : Nat} (ht : P.underlying t = some (.map k e)) (hk : P.underlying k = some (.int .i64)) (h : MapIt w b r f left cnt) (n : Int)
    (hm : a.eval m = .map (some b)) (hx : a.eval x = .int .i64 n)
    (hK : ∀ w' cnt', cnt' ≤ cnt → MapIt w' b r (fun x => if x = n then none else f x) (fun x => left x ∧ x ≠ n) cnt' → Ext [b] w w' → wpList P ops Q rest (a.put d (.tuple #[])) w') :
    wpList P ops Q (⟨d, .call { callee := .builtin .delete, args := #[m, x], argTypes := #[t, k] }, ty, pos, after, none⟩ :: rest) a w := by
  refine wpList_plain rfl fun K' hK' => ?_
  obtain ⟨w', cnt', hrun, r1, r2, r3⟩ := h.del ht hk n ty
  unfold Oper.wp
  simp [execOp, resolve, invoke, builtin, hm, hx, hrun, Result.andThen]
  exact hK' _ _ (hK w' cnt' r1 r2 r3)
end
end Go.Proofs.Ytmjgbkepngeckaa
