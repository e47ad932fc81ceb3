/- ChunkHarms holds: for every input the call returns true, and the arguments read as they did. No condition. -/
import Derived.Test.YtlnfigbcdmfmdaaMap
import Derived.Maps.RangeRun
import Derived.Test.YtlnfigbcdmfmdaaChkq
import Derived.Test.YtlnfigbcdmfmdaaChkt
import Derived.Test.YtlnfigbcdmfmdaaArgs
namespace Go.Proofs.Ytlnfigbcdmfmdaa
open Go.RowKit Go.Lib Go.MapKept
open Go.ChangeMaps (setBlock heap_setBlock_same heap_setBlock_other)
set_option linter.unusedVariables false

def SetE (w : World) (b : Nat) (es : Array MapEntry) (clock : Nat) (ks : List Int) : Prop :=
  w.heap[b]? = some (.map es clock) ∧ Stamped es clock ∧ es.toList.map (·.key) = ks.map (Value.int .i64) ∧ ∀ e ∈ es.toList, e.val = .bool true
/-- Block b is a map from ints to true: just the keys ks. -/
def SetAt (w : World) (b : Nat) (ks : List Int) : Prop := ∃ es clock, SetE w b es clock ks
theorem SetAt.lt {w : World} {b : Nat} {ks : List Int} (h : SetAt w b ks) : b < w.heap.size := by
  obtain ⟨es, clock, hb, _⟩ := h
  exact (Array.getElem?_eq_some_iff.1 hb).1
theorem SetAt.same {w w' : World} {b : Nat} {ks : List Int} (h : SetAt w b ks) (hx : ∀ o, w.heap[b]? = some o → w'.heap[b]? = some o) : SetAt w' b ks := by
  obtain ⟨es, clock, h1, h2⟩ := h
  exact ⟨es, clock, hx _ h1, h2⟩
theorem SetAt.keep {w w' : World} {b : Nat} {ks : List Int} {F : List Nat} (h : SetAt w b ks) (hx : Ext F w w') (hb : b ∉ F) : SetAt w' b ks := h.same fun o ho => hx.heap hb ho
theorem SetAt.newg {w : World} {g : Nat} (hg : w.heap.size = g) : SetAt (w.alloc (.map #[] 0)) g [] := by
  subst hg
  exact ⟨#[], 0, heap_alloc_new w _, stamped_empty 0, rfl, by simp⟩
theorem SetE.key {w : World} {b clock : Nat} {es : Array MapEntry} {ks : List Int} (h : SetE w b es clock ks) {e : MapEntry} (he : e ∈ es.toList) : ∃ k, k ∈ ks ∧ e.key = .int .i64 k := by
  have : e.key ∈ es.toList.map (·.key) := List.mem_map_of_mem he
  rw [h.2.2.1] at this
  obtain ⟨k, hk, e2⟩ := List.mem_map.1 this
  exact ⟨k, hk, e2.symm⟩
theorem SetE.mem {w : World} {b clock : Nat} {es : Array MapEntry} {ks : List Int} (h : SetE w b es clock ks) {k : Int} (hk : k ∈ ks) : ∃ e ∈ es.toList, e.key = .int .i64 k := by
  have : (Value.int .i64 k) ∈ es.toList.map (·.key) := by rw [h.2.2.1]; exact List.mem_map_of_mem hk
  obtain ⟨e, he, e2⟩ := List.mem_map.1 this
  exact ⟨e, he, e2⟩
theorem SetE.nodup {w : World} {b clock : Nat} {es : Array MapEntry} {ks : List Int} (h : SetE w b es clock ks) : ks.Nodup := by
  have h2 := h.2.1.2.2
  rw [h.2.2.1] at h2
  exact (List.pairwise_map.1 h2).imp (fun h e => h (by rw [e]))
theorem SetAt.nodup {w : World} {b : Nat} {ks : List Int} (h : SetAt w b ks) : ks.Nodup := by
  obtain ⟨es, clock, h⟩ := h
  exact h.nodup
theorem SetE.size {w : World} {b clock : Nat} {es : Array MapEntry} {ks : List Int} (h : SetE w b es clock ks) : es.size = ks.length := by
  have := congrArg List.length h.2.2.1
  simpa using this
theorem SetAt.map {w : World} {b : Nat} {ks : List Int} (h : SetAt w b ks) : MapAt w b (fun k => if k ∈ ks then some (.bool true) else none) := by
  obtain ⟨es, clock, hE⟩ := h
  refine ⟨es, clock, hE.1, hE.2.1, fun x hx => ?_, fun k v => ?_⟩
  · obtain ⟨k, -, e⟩ := hE.key hx
    rw [e]; rfl
  · constructor
    · intro hh
      simp only at hh
      split at hh
      · rename_i hk
        obtain ⟨e, he, e2⟩ := hE.mem hk
        cases hh
        exact ⟨e, he, e2, hE.2.2.2 e he⟩
      · cases hh
    · rintro ⟨e, he, e2, rfl⟩
      obtain ⟨k2, hk2, e3⟩ := hE.key he
      rw [e2] at e3
      cases e3
      simp only
      rw [if_pos hk2, hE.2.2.2 e he]
section
variable {P : Program} {w : World} {b : Nat} {ks : List Int} {t k e : TypeId}
theorem SetAt.lookup (h : SetAt w b ks) (ht : P.underlying t = some (.map k e)) (hk : P.underlying k = some (.int .i64)) (hz : ∀ W, (zeroValue e).run P W = .ok (.bool false) W) (n : Int) :
    (Instr.lookup t (.map (some b)) (.int .i64 n) false).run P w = .ok (.bool (decide (n ∈ ks))) w := by
  rw [h.map.lookup ht hk hz n]
  by_cases hn : n ∈ ks
  · simp [hn]
  · simp [hn]
theorem SetAt.len (h : SetAt w b ks) (ht : P.underlying t = some (.map k e)) (ty : TypeId) : (Builtin.len_ #[t] ty #[.map (some b)]).run P w = .ok (.int .i64 (ks.length : Nat)) w := by
  obtain ⟨es, clock, hE⟩ := h
  rw [← hE.size]
  simp [Builtin.len_, run_underlying ht, MapKept.run_getObj_map hE.1, goInt, Result.andThen]
theorem SetAt.insert (h : SetAt w b ks) (ht : P.underlying t = some (.map k e)) (hk : P.underlying k = some (.int .i64)) (n : Int) (hn : n ∉ ks) :
    ∃ w', (Instr.mapUpdate t (.map (some b)) (.int .i64 n) (.bool true)).run P w = .ok () w' ∧ SetAt w' b (ks ++ [n]) ∧ Ext [b] w w' := by
  obtain ⟨es, clock, hE⟩ := h
  have hkey : IsKey (.int .i64) (.int .i64 n) := rfl
  have hks : ∀ x ∈ es.toList, IsKey (.int .i64) x.key := fun x hx => by
    obtain ⟨k, -, e⟩ := hE.key hx
    rw [e]; rfl
  have hext : ∀ o, Ext [b] w { w with heap := w.heap.setIfInBounds b o } := fun o =>
    ⟨rfl, rfl, rfl, by simp, fun i _ hi => (heap_set hE.1).2 i (by simpa using hi)⟩
  rcases findNow_spec hkey es.toList 0 hks with ⟨h1, h2⟩ | ⟨j, x, h1, h2, h3⟩
  · refine ⟨{ w with heap := w.heap.setIfInBounds b (.map (es.push { key := .int .i64 n, val := .bool true, born := clock }) (clock + 1)) }, ?_, ⟨_, _, (heap_set hE.1).1, stamped_push hE.2.1 h2, ?_, ?_⟩, hext _⟩
    · simp [Instr.mapUpdate, run_underlying ht, MapKept.run_getObj_map hE.1, run_checkKey hk hkey, run_findKey hk h1, MapKept.run_setObj_map _ hE.1, Result.andThen]
    · rw [Array.toList_push, List.map_append, hE.2.2.1, List.map_append]; rfl
    · intro y hy
      simp only [Array.toList_push, List.mem_append, List.mem_singleton] at hy
      rcases hy with hy | rfl
      · exact hE.2.2.2 y hy
      · rfl
  · obtain ⟨k2, hk2, e2⟩ := hE.key (List.mem_iff_getElem?.2 ⟨j, h2⟩)
    rw [h3] at e2
    cases e2
    exact absurd hk2 hn
end
/-- An iterator in block r over the set in block b: which of the entries are gone. -/
def RngAt (w : World) (r b : Nat) (es : Array MapEntry) (clock : Nat) (seen : Array Nat) : Prop := w.heap[r]? = some (.mapIter (some b) clock seen clock)
theorem RngAt.same {w w' : World} {r b clock : Nat} {es : Array MapEntry} {seen : Array Nat} (h : RngAt w r b es clock seen) (hx : ∀ o, w.heap[r]? = some o → w'.heap[r]? = some o) : RngAt w' r b es clock seen := hx _ h
theorem RngAt.seen {w : World} {r b clock : Nat} {es : Array MapEntry} {seen : Array Nat} (h : RngAt w r b es clock seen) : w.iterSeen r = seen := by
  unfold World.iterSeen
  rw [h]
section
variable {P : Program} {w : World} {r b clock : Nat} {es : Array MapEntry} {ks : List Int} {seen : Array Nat}
theorem SetE.range {t k e : TypeId} (h : SetE w b es clock ks) (ht : P.underlying t = some (.map k e)) :
    (Instr.range t (.map (some b))).run P w = .ok (.pointer (some ⟨w.heap.size, 0, none⟩)) (w.alloc (.mapIter (some b) clock #[] clock)) ∧ RngAt (w.alloc (.mapIter (some b) clock #[] clock)) w.heap.size b es clock #[] :=
  ⟨run_range_map w t k e b es clock ht h.1, heap_alloc_new w _⟩
theorem ext_block {w : World} {r : Nat} (o : Obj) (hr : r < w.heap.size) : Ext [r] w (setBlock w r o) :=
  ⟨rfl, rfl, rfl, by simp [setBlock], fun i hi hn => by
    have hne : r ≠ i := fun e => by subst e; simp at hn
    simp [setBlock, hne]⟩
/-- One step of the range: nothing is left; or one key comes out, whichever. -/
theorem SetE.next (h : SetE w b es clock ks) (hr : RngAt w r b es clock seen) :
    ((∀ k ∈ ks, ∃ e ∈ es.toList, e.key = .int .i64 k ∧ seen.contains e.born = true) ∧ ∀ ty, (Instr.next (.pointer (some ⟨r, 0, none⟩)) false ty).run P w = .ok (.tuple #[.bool false]) w) ∨
    ∃ (k : Int) (x : MapEntry) (w' : World), k ∈ ks ∧ x ∈ es.toList ∧ x.key = .int .i64 k ∧ (∀ ty, (Instr.next (.pointer (some ⟨r, 0, none⟩)) false ty).run P w = .ok (.tuple #[.bool true, .int .i64 k, .bool true]) w') ∧
      (Instr.entry (.pointer (some ⟨r, 0, none⟩))).run P w' = .ok (.tuple #[.int .i64 k, .bool true]) w' ∧ Ext [r] w w' ∧ RngAt w' r b es clock (seen.push x.born) ∧ (leftOf es (seen.push x.born)).size < (leftOf es seen).size := by
  have hrb : r ≠ b := fun e => by
    subst e
    have h1 := h.1
    rw [show w.heap[r]? = some (.mapIter (some r) clock seen clock) from hr] at h1
    cases h1
  have hrl : r < w.heap.size := (Array.getElem?_eq_some_iff.1 (show w.heap[r]? = some (.mapIter (some b) clock seen clock) from hr)).1
  have key := fun ty => run_next_at (P := P) w ty r b clock clock seen es clock hr h.1 h.2.1.1 (Nat.le_refl _)
  by_cases h0 : (leftOf es seen).size = 0
  · left
    refine ⟨fun k hk => ?_, fun ty => ?_⟩
    · obtain ⟨e, he, e2⟩ := h.mem hk
      exact ⟨e, he, e2, all_seen es seen h0 e he⟩
    · rcases key ty with ⟨-, h1⟩ | ⟨e, he, -⟩
      · exact h1
      · have : (leftOf es seen).toList = [] := List.length_eq_zero_iff.1 (by simpa using h0)
        rw [this] at he; cases he
  · right
    rcases key 0 with ⟨h1, -⟩ | ⟨x, hx, w1, hw1, hrun⟩
    · exact absurd h1 h0
    · obtain ⟨hxe, hxs⟩ := mem_left hx
      obtain ⟨k, hk, e2⟩ := h.key hxe
      have e3 := h.2.2.2 x hxe
      rw [e2, e3] at hrun
      have hxw1 : Ext [] w w1 := by rcases hw1 with rfl | rfl; exact Ext.refl _ _; exact (Ext.refl _ _).drew
      have hr1 : r < w1.heap.size := Nat.lt_of_lt_of_le hrl hxw1.size
      have hxt : Ext [r] w (setBlock w1 r (.mapIter (some b) clock (seen.push x.born) clock)) := (hxw1.mono (by simp)).trans (ext_block _ hr1) (fun z hz => .inl hz)
      have hrn : (setBlock w1 r (.mapIter (some b) clock (seen.push x.born) clock)).heap[r]? = some (.mapIter (some b) clock (seen.push x.born) clock) := by simp [setBlock, hr1]
      have hbn : (setBlock w1 r (.mapIter (some b) clock (seen.push x.born) clock)).heap[b]? = some (.map es clock) := hxt.heap (by simp; exact fun e => hrb e.symm) h.1
      have hent := run_entry_at (P := P) _ r b clock seen es clock x hrn hbn hxe h.2.1.2.1
      rw [e2, e3] at hent
      exact ⟨k, x, _, hk, hxe, e2, fun ty => hrun, hent, hxt, hrn, left_shrinks es seen x hx⟩
end
end Go.Proofs.Ytlnfigbcdmfmdaa
namespace Go.Proofs.Ytlnfigbcdmfmdaa
open Go.RowKit
set_option linter.unusedVariables false
set_option linter.unusedSimpArgs false

/-- What the device holds: pieces that are good, pieces that are not, the copies of the list but one. -/
structure Hm (V : Int → Sl) (t : List UInt8) (gd bd : Int → Prop) (x : Int) : Prop where
  good : ∀ (k : Nat) (hk : k < (cutL t).length), gd k → V (2 + (k : Int)) = (1, chunkRec 7 k (cutL t)[k])
  hurt : ∀ k : Nat, k < (cutL t).length → bd k → (V (2 + (k : Int))).1 ≠ 1
  cp : ∀ p : Int, p = 0 ∨ p = 1 → p ≠ x → V p = (1, recL (ofL 7 2 t))
  cx : x = 0 ∨ x = 1 → (V x).1 ≠ 1
  other : ∀ j : Nat, 2 ≤ j → j < 4 → Under7 (cpy 0 V j) 7
def sH (t : List UInt8) : Sto := ⟨0, 0, ofL 7 2 t⟩
theorem sH_area (t : List UInt8) : ¬ (sH t).area < 0 := by show ¬ (0 : Int) < 0; decide
theorem sH_b (t : List UInt8) (k : Int) : (sH t).b (sH t).area k = k := by unfold Sto.b sH; simp
section
variable {V : Int → Sl} {t : List UInt8} {gd bd : Int → Prop} {x : Int}
theorem Hm.mono (h : Hm V t gd bd x) {gd' bd' : Int → Prop} (h1 : ∀ k : Nat, k < (cutL t).length → gd' k → gd k) (h2 : ∀ k : Nat, k < (cutL t).length → bd' k → bd k) : Hm V t gd' bd' x :=
  ⟨fun k hk hg => h.good k hk (h1 k hk hg), fun k hk hb => h.hurt k hk (h2 k hk hb), h.cp, h.cx, h.other⟩
theorem Hm.top (h : Hm V t gd bd x) (hr : (ofL 7 2 t).right) : Top 0 V 0 (ofL 7 2 t) := by
  have hc : ∀ j : Nat, j < 2 → cpy 0 V j = V (j : Int) := fun j hj => by
    unfold cpy
    congr 1
    omega
  refine ⟨fun j hj => ?_, ?_⟩
  · by_cases hj2 : 2 ≤ j
    · exact .inr (h.other j hj2 hj)
    · by_cases hx : (j : Int) = x
      · right
        rw [hc j (by omega), hx]
        intro h1
        exact absurd h1 (h.cx (by omega))
      · left
        rw [hc j (by omega), h.cp j (by omega) hx]
        exact ⟨Sl.lst_rec hr, by omega⟩
  · by_cases hx : x = 0
    · refine ⟨1, by omega, ?_⟩
      rw [hc 1 (by omega), h.cp (1 : Nat) (by omega) (by omega)]
      exact Sl.lst_rec hr
    · refine ⟨0, by omega, ?_⟩
      rw [hc 0 (by omega), h.cp (0 : Nat) (by omega) (by omega)]
      exact Sl.lst_rec hr
theorem Hm.open (h : Hm V t gd bd x) (hr : (ofL 7 2 t).right) : openSt 0 V = sH t := by
  have e := scan_top (Int.le_refl 0) (h.top hr)
  unfold openSt sH
  rw [e]
theorem Hm.chg (h : Hm V t gd bd x) (k : Nat) (hk : k < (cutL t).length) (hg : gd k) : (sH t).chE V k = 0 ∧ (sH t).chV V k = (cutL t)[k] :=
  ch_in (s := sH t) (i := 7) (t := 2) (.inl rfl) rfl k hk (by rw [sH_b]; exact h.good k hk hg)
theorem Hm.chb (h : Hm V t gd bd x) (k : Nat) (hk : k < (cutL t).length) (hb : bd k) : (sH t).chE V k = 6 ∧ (sH t).chV V k = [] := by
  have e := ch_bad (V := V) (s := sH t) (i := 7) (t := 2) (.inl rfl) rfl k hk (by rw [sH_b]; exact h.hurt k hk hb)
  refine ⟨e, ?_⟩
  unfold Sto.chV
  rw [if_neg (by rw [e]; decide)]
theorem sH_len (t : List UInt8) : (sH t).list.sums.length = (cutL t).length := ofL_sums_len 7 2 t
/-- Just the pieces in a set are damaged: Hurt tells them. -/
theorem Hm.hurts (h : Hm V t gd bd x) {bads : List Int} (hgd : ∀ k : Int, k ∉ bads → gd k) (hbd : ∀ k : Int, k ∈ bads → bd k) (hn : bads.Nodup) (hb : ∀ k ∈ bads, 0 ≤ k ∧ k < (cutL t).length) :
    ((sH t).hurt V).length = bads.length ∧ ∀ k ∈ (sH t).hurt V, k ∈ bads := by
  have hm : ∀ a : Int, a ∈ (sH t).hurt V ↔ a ∈ bads := by
    intro a
    unfold Sto.hurt Sto.hurtN
    rw [List.mem_map]
    constructor
    · rintro ⟨k, hk, rfl⟩
      rw [List.mem_filter, List.mem_range, sH_len] at hk
      by_cases hkb : (k : Int) ∈ bads
      · exact hkb
      · have h6 := of_decide_eq_true hk.2
        rw [(h.chg k hk.1 (hgd _ hkb)).1] at h6
        exact absurd h6 (by decide)
    · intro ha
      obtain ⟨h0, h1⟩ := hb a ha
      refine ⟨a.toNat, ?_, by omega⟩
      rw [List.mem_filter, List.mem_range, sH_len]
      refine ⟨by omega, decide_eq_true ?_⟩
      exact (h.chb a.toNat (by omega) (hbd _ (by rwa [Int.toNat_of_nonneg h0]))).1
  have hnd : ((sH t).hurt V).Nodup := by
    unfold Sto.hurt Sto.hurtN
    refine List.Pairwise.map _ (fun a b hab e => hab (Int.ofNat.inj e)) (List.Pairwise.filter _ List.nodup_range)
  exact ⟨((List.perm_ext_iff_of_nodup hnd hn).2 hm).length_eq, fun k hk => (hm k).1 hk⟩
/-- Data is there exactly if no piece is damaged. -/
theorem Hm.data (h : Hm V t gd bd x) {bads : List Int} (hgd : ∀ k : Int, k ∉ bads → gd k) (hbd : ∀ k : Int, k ∈ bads → bd k) (hb : ∀ k ∈ bads, 0 ≤ k ∧ k < (cutL t).length) :
    ((sH t).data V).2 = if 0 < bads.length then 6 else 0 := by
  have key : ∀ m : Nat, m ≤ (cutL t).length → (((sH t).dataN V m).2 = 0 ∧ ∀ k : Nat, k < m → (k : Int) ∉ bads) ∨ (((sH t).dataN V m).2 = 6 ∧ ∃ k : Nat, (k : Int) ∈ bads) := by
    intro m
    induction m with
    | zero => exact fun _ => .inl ⟨rfl, fun k hk => by omega⟩
    | succ m ih =>
      intro hm
      rcases ih (by omega) with ⟨h1, h2⟩ | ⟨h1, h2⟩
      · rw [Sto.dataN_one _ _ _ h1]
        by_cases hk : (m : Int) ∈ bads
        · rw [(h.chb m (by omega) (hbd _ hk)).1, if_pos (by decide)]
          exact .inr ⟨rfl, m, hk⟩
        · rw [(h.chg m (by omega) (hgd _ hk)).1, if_neg (by decide)]
          refine .inl ⟨rfl, fun k hk2 => ?_⟩
          by_cases e : k = m
          · rw [e]; exact hk
          · exact h2 k (by omega)
      · rw [Sto.dataN_stop _ _ m (by rw [h1]; decide) (m + 1) (by omega)]
        exact .inr ⟨h1, h2⟩
  unfold Sto.data
  rw [if_neg (sH_area t), sH_len]
  rcases key _ (Nat.le_refl _) with ⟨h1, h2⟩ | ⟨h1, k, hk⟩
  · rw [h1, if_neg]
    intro hl
    obtain ⟨a, ha⟩ := List.exists_mem_of_length_pos hl
    obtain ⟨h3, h4⟩ := hb a ha
    exact h2 a.toNat (by omega) (by rwa [Int.toNat_of_nonneg h3])
  · rw [h1, if_pos]
    exact List.length_pos_of_mem hk
/-- A piece damaged. -/
theorem Hm.harm (h : Hm V t gd bd x) (k : Nat) (hk : k < (cutL t).length) (h64 : (cutL t).length ≤ 64) : Hm (setF V (2 + (k : Int)) (2, Rc.zero)) t (fun j => gd j ∧ j ≠ k) (fun j => bd j ∨ j = k) x := by
  refine ⟨fun j hj hg => ?_, fun j hj hb => ?_, fun p hp hx => ?_, fun hx => ?_, fun j h2 h4 => ?_⟩
  · rw [setF_other _ _ _ _ (by omega)]
    exact h.good j hj hg.1
  · by_cases e : (j : Int) = k
    · rw [e, setF_same]; decide
    · rw [setF_other _ _ _ _ (by omega)]
      exact h.hurt j hj (hb.resolve_right e)
  · rw [setF_other _ _ _ _ (by omega)]
    exact h.cp p hp hx
  · rw [setF_other _ _ _ _ (by omega)]
    exact h.cx hx
  · have e : cpy 0 (setF V (2 + (k : Int)) (2, Rc.zero)) j = cpy 0 V j := by
      unfold cpy
      exact setF_other _ _ _ _ (by omega)
    rw [e]
    exact h.other j h2 h4
/-- A copy of the list lost. -/
theorem Hm.copy (h : Hm V t gd bd (-1)) (p : Int) (hp : p = 0 ∨ p = 1) : Hm (setF V p (2, Rc.zero)) t gd bd p := by
  refine ⟨fun j hj hg => ?_, fun j hj hb => ?_, fun p2 hp2 hx => ?_, fun hx => ?_, fun j h2 h4 => ?_⟩
  · rw [setF_other _ _ _ _ (by omega)]
    exact h.good j hj hg
  · rw [setF_other _ _ _ _ (by omega)]
    exact h.hurt j hj hb
  · rw [setF_other _ _ _ _ (by omega)]
    exact h.cp p2 hp2 (by omega)
  · rw [setF_same]; decide
  · have e : cpy 0 (setF V p (2, Rc.zero)) j = cpy 0 V j := by
      unfold cpy
      exact setF_other _ _ _ _ (by omega)
    rw [e]
    exact h.other j h2 h4
/-- Both copies written again. -/
theorem Hm.copies (h : Hm V t gd bd x) (hr : (ofL 7 2 t).right) : Hm (setF (setF V 0 (1, recL (ofL 7 2 t))) 1 (1, recL (ofL 7 2 t))) t gd bd (-1) := by
  have h64 := cut_right hr
  refine ⟨fun j hj hg => ?_, fun j hj hb => ?_, fun p2 hp2 hx => ?_, fun hx => ?_, fun j h2 h4 => ?_⟩
  · rw [setF_other _ _ _ _ (by omega), setF_other _ _ _ _ (by omega)]
    exact h.good j hj hg
  · rw [setF_other _ _ _ _ (by omega), setF_other _ _ _ _ (by omega)]
    exact h.hurt j hj hb
  · rcases hp2 with rfl | rfl
    · rw [setF_other _ _ _ _ (by omega), setF_same]
    · rw [setF_same]
  · omega
  · have e : cpy 0 (setF (setF V 0 (1, recL (ofL 7 2 t))) 1 (1, recL (ofL 7 2 t))) j = cpy 0 V j := by
      unfold cpy
      rw [setF_other _ _ _ _ (by omega), setF_other _ _ _ _ (by omega)]
    rw [e]
    exact h.other j h2 h4
/-- A piece mended. -/
theorem Hm.mended (h : Hm V t gd bd x) (k : Nat) (hk : k < (cutL t).length) (h64 : (cutL t).length ≤ 64) : Hm (setF V (2 + (k : Int)) (1, chunkRec 7 k (cutL t)[k])) t (fun j => gd j ∨ j = k) (fun j => bd j ∧ j ≠ k) x := by
  refine ⟨fun j hj hg => ?_, fun j hj hb => ?_, fun p hp hx => ?_, fun hx => ?_, fun j h2 h4 => ?_⟩
  · by_cases e : (j : Int) = k
    · obtain rfl : j = k := by omega
      rw [setF_same]
    · rw [setF_other _ _ _ _ (by omega)]
      exact h.good j hj (hg.resolve_right e)
  · rw [setF_other _ _ _ _ (by omega)]
    exact h.hurt j hj hb.1
  · rw [setF_other _ _ _ _ (by omega)]
    exact h.cp p hp hx
  · rw [setF_other _ _ _ _ (by omega)]
    exact h.cx hx
  · have e : cpy 0 (setF V (2 + (k : Int)) (1, chunkRec 7 k (cutL t)[k])) j = cpy 0 V j := by
      unfold cpy
      exact setF_other _ _ _ _ (by omega)
    rw [e]
    exact h.other j h2 h4
end

/-- What stands in memory while pieces are damaged, told and mended: the store q over the device b, the set m, the pieces. -/
structure HarmW (w0 : World) (q b : Nat) (sv : Value) (t : List UInt8) (m : Nat) (O : List Nat) (sl : Value) (ks : List Int) (gd bd : Int → Prop) (x : Int) (w : World) : Prop where
  dev : ∃ D V, StM w0 w q b sv D (sH t) 200 O ∧ Fine D 200 V 0 ∧ Hm V t gd bd x
  mp : SetAt w m ks
  rd : Rd w 1 sl (cutL t).length ((cutL t).map str)
  mO : m ∈ O
  zO : ∀ z ∈ vblocks sl, z ∈ O
  m0 : w0.heap.size ≤ m
  mz : m ∉ vblocks sl
  hr : (ofL 7 2 t).right
  hb : ∀ k ∈ ks, 0 ≤ k ∧ k < (cutL t).length
section
variable {w0 w : World} {q b m : Nat} {sv sl : Value} {t : List UInt8} {O : List Nat} {ks : List Int} {gd bd : Int → Prop} {x : Int}
theorem HarmW.ext (h : HarmW w0 q b sv t m O sl ks gd bd x w) : Ext [] w0 w := by
  obtain ⟨D, V, h1, -⟩ := h.dev
  exact h1.dev.ext
theorem HarmW.keep {w' : World} (h : HarmW w0 q b sv t m O sl ks gd bd x w) (hx : Ext [] w w') : HarmW w0 q b sv t m O sl ks gd bd x w' := by
  obtain ⟨D, V, h1, h2⟩ := h.dev
  exact ⟨⟨D, V, h1.keep hx, h2⟩, h.mp.keep hx (by simp), h.rd.keep hx (by simp), h.mO, h.zO, h.m0, h.mz, h.hr, h.hb⟩
theorem HarmW.mono (h : HarmW w0 q b sv t m O sl ks gd bd x w) {gd' bd' : Int → Prop} (h1 : ∀ k : Nat, k < (cutL t).length → gd' k → gd k) (h2 : ∀ k : Nat, k < (cutL t).length → bd' k → bd k) : HarmW w0 q b sv t m O sl ks gd' bd' x w := by
  obtain ⟨D, V, h3, h4, h5⟩ := h.dev
  exact ⟨⟨D, V, h3, h4, h5.mono h1 h2⟩, h.mp, h.rd, h.mO, h.zO, h.m0, h.mz, h.hr, h.hb⟩
/-- A new block of the call's own beside. -/
theorem HarmW.add {w' : World} (h : HarmW w0 q b sv t m O sl ks gd bd x w) (hx : Ext [] w w') (z : Nat) (h1 : w.heap.size ≤ z) (h2 : z < w'.heap.size) : HarmW w0 q b sv t m (z :: O) sl ks gd bd x w' := by
  obtain ⟨D, V, h3, h4⟩ := h.dev
  exact ⟨⟨D, V, h3.add hx z h1 h2, h4⟩, h.mp.keep hx (by simp), h.rd.keep hx (by simp), List.mem_cons_of_mem _ h.mO, fun y hy => List.mem_cons_of_mem _ (h.zO y hy), h.m0, h.mz, h.hr, h.hb⟩
/-- Another block turned. -/
theorem HarmW.other {w' : World} {z : Nat} (h : HarmW w0 q b sv t m O sl ks gd bd x w) (hx : Ext [z] w w') (hz : z ∈ O) (h1 : w0.heap.size ≤ z) (h2 : z ≠ m) (h3 : z ∉ vblocks sl) : HarmW w0 q b sv t m O sl ks gd bd x w' := by
  obtain ⟨D, V, h4, h5⟩ := h.dev
  exact ⟨⟨D, V, h4.other hx hz h1, h5⟩, h.mp.keep hx (by simpa using fun e => h2 e.symm), h.rd.keep hx (fun y hy hm => by simp at hm; subst hm; exact h3 hy), h.mO, h.zO, h.m0, h.mz, h.hr, h.hb⟩
/-- A key put into the set. -/
theorem HarmW.key {w' : World} (h : HarmW w0 q b sv t m O sl ks gd bd x w) {k : Int} (hk : 0 ≤ k ∧ k < (cutL t).length) (hm : SetAt w' m (ks ++ [k])) (hx : Ext [m] w w') : HarmW w0 q b sv t m O sl (ks ++ [k]) gd bd x w' := by
  obtain ⟨D, V, h4, h5⟩ := h.dev
  exact ⟨⟨D, V, h4.other hx h.mO h.m0, h5⟩, hm, h.rd.keep hx (fun y hy hm => by simp at hm; subst hm; exact h.mz hy), h.mO, h.zO, h.m0, h.mz, h.hr, fun j hj => by
    rcases List.mem_append.1 hj with hj | hj
    · exact h.hb j hj
    · simp at hj; subst hj; exact hk⟩
/-- The device, and the store's row, have turned. -/
theorem HarmW.turn {w' : World} {q' : Nat} {sv' : Value} {D' : Dv} {V' : Int → Sl} {gd' bd' : Int → Prop} {x' : Int} (h : HarmW w0 q b sv t m O sl ks gd bd x w) (hs : StM w0 w' q' b sv' D' (sH t) 200 O) (hk : Kept O w w') (hf : Fine D' 200 V' 0) (hm : Hm V' t gd' bd' x') : HarmW w0 q' b sv' t m O sl ks gd' bd' x' w' :=
  ⟨⟨D', V', hs, hf, hm⟩, h.mp.same (fun o ho => hk m h.mO o ho), hk.rd h.rd h.zO, h.mO, h.zO, h.m0, h.mz, h.hr, h.hb⟩
theorem HarmW.len (h : HarmW w0 q b sv t m O sl ks gd bd x w) : (cutL t).length ≤ 64 := cut_right h.hr
theorem HarmW.lose (h : HarmW w0 q b sv t m O sl ks gd bd x w) (k : Nat) (hk : k < (cutL t).length) :
    Calls Try.prog 16 #[.pointer (some ⟨b, 0, none⟩), .int .i64 (2 + (k : Int))] w fun e w' => e = .returned (.tuple #[]) ∧ HarmW w0 q b sv t m O sl ks (fun j => gd j ∧ j ≠ k) (fun j => bd j ∨ j = k) x w' := by
  obtain ⟨D, V, h1, h2, h3⟩ := h.dev
  have hl := h.len
  refine (lose_o b D (2 + (k : Int)) w0 w _ h1.dev).mono ?_
  rintro e w' ⟨rfl, hd, hk2⟩
  obtain ⟨h4, h5⟩ := h1.devt hd hk2
  exact ⟨rfl, h.turn h4 h5 (h2.lose (by omega) (by omega)) (h3.harm k hk hl)⟩
theorem HarmW.flip (h : HarmW w0 q b sv t m O sl ks gd bd x w) (k : Nat) (hk : k < (cutL t).length) (hg : gd k) (at_ : Int) (hat : -9223372036854775808 ≤ at_ ∧ at_ ≤ 9223372036854775807) (c : UInt8) (hc : c ≠ 0) :
    Calls Try.prog 34 #[.pointer (some ⟨b, 0, none⟩), .int .i64 (2 + (k : Int)), .int .i64 at_, .int .u8 (c.toNat : Int)] w fun e w' => e = .returned (.tuple #[]) ∧ HarmW w0 q b sv t m O sl ks (fun j => gd j ∧ j ≠ k) (fun j => bd j ∨ j = k) x w' := by
  obtain ⟨D, V, h1, h2, h3⟩ := h.dev
  have hl := h.len
  refine (flip_o b D (2 + (k : Int)) at_ c w0 w _ h1.dev hat).mono ?_
  rintro e w' ⟨rfl, hd, hk2⟩
  obtain ⟨h4, h5⟩ := h1.devt hd hk2
  exact ⟨rfl, h.turn h4 h5 (h2.flip (by omega) (by omega) (by rw [h3.good k hk hg]) at_ hc) (h3.harm k hk hl)⟩
theorem HarmW.losec (h : HarmW w0 q b sv t m O sl ks gd bd (-1) w) (p : Int) (hp : p = 0 ∨ p = 1) :
    Calls Try.prog 16 #[.pointer (some ⟨b, 0, none⟩), .int .i64 p] w fun e w' => e = .returned (.tuple #[]) ∧ HarmW w0 q b sv t m O sl ks gd bd p w' := by
  obtain ⟨D, V, h1, h2, h3⟩ := h.dev
  refine (lose_o b D p w0 w _ h1.dev).mono ?_
  rintro e w' ⟨rfl, hd, hk2⟩
  obtain ⟨h4, h5⟩ := h1.devt hd hk2
  exact ⟨rfl, h.turn h4 h5 (h2.lose (by omega) (by omega)) (h3.copy p hp)⟩
theorem HarmW.chunkg (h : HarmW w0 q b sv t m O sl ks gd bd x w) (k : Nat) (hk : k < (cutL t).length) (hg : gd k) :
    Calls Try.prog 24 #[.pointer (some ⟨q, 0, none⟩), .int .i64 (k : Int)] w fun e w' => e = .returned (.tuple #[str (cutL t)[k], .int .i64 0]) ∧ Ext [] w w' := by
  obtain ⟨D, V, h1, h2, h3⟩ := h.dev
  have c := h1.chunk h2 (k : Int)
  unfold ChPost at c
  rw [(h3.chg k hk hg).1, (h3.chg k hk hg).2] at c
  exact c
theorem HarmW.chunkb (h : HarmW w0 q b sv t m O sl ks gd bd x w) (k : Int) (hk : 0 ≤ k ∧ k < (cutL t).length) (hb : bd k) :
    Calls Try.prog 24 #[.pointer (some ⟨q, 0, none⟩), .int .i64 k] w fun e w' => e = .returned (.tuple #[.string ⟨#[]⟩, .int .i64 6]) ∧ Ext [] w w' := by
  obtain ⟨D, V, h1, h2, h3⟩ := h.dev
  obtain ⟨k, rfl⟩ : ∃ j : Nat, k = j := ⟨k.toNat, by omega⟩
  have c := h1.chunk h2 (k : Int)
  unfold ChPost at c
  rw [(h3.chb k (by omega) hb).1, (h3.chb k (by omega) hb).2] at c
  exact c
/-- Hurt's answer: as many as there are damaged ones, each of them one. -/
def Hurts (w : World) (ks : List Int) (e : Ending) (w' : World) : Prop := ∃ (a : Option Addr) (cap : Nat) (l : List Int), e = .returned (.slice a ks.length cap) ∧ l.length = ks.length ∧ (∀ k ∈ l, k ∈ ks) ∧ Rd w' 1 (.slice a ks.length cap) ks.length (l.map (Value.int .i64)) ∧ Ext [] w w'
theorem HarmW.hurts (h : HarmW w0 q b sv t m O sl ks gd bd x w) (hgd : ∀ k : Int, k ∉ ks → gd k) (hbd : ∀ k : Int, k ∈ ks → bd k) :
    Calls Try.prog 31 #[.pointer (some ⟨q, 0, none⟩)] w (Hurts w ks) := by
  obtain ⟨D, V, h1, h2, h3⟩ := h.dev
  obtain ⟨e1, e2⟩ := h3.hurts hgd hbd h.mp.nodup h.hb
  refine (h1.hurt7 h2).mono ?_
  rintro e w' ⟨v, rfl, ho, hx, -⟩
  generalize (sH t).hurt V = l at e1 e2 ho
  obtain ⟨a, cap, rfl⟩ := Rd.isSlice ho.rd
  have hr := ho.rd
  rw [e1] at hr ⊢
  exact ⟨a, cap, l, rfl, e1, e2, hr, hx⟩
theorem HarmW.datas (h : HarmW w0 q b sv t m O sl ks gd bd x w) (hgd : ∀ k : Int, k ∉ ks → gd k) (hbd : ∀ k : Int, k ∈ ks → bd k) :
    Calls Try.prog 26 #[.pointer (some ⟨q, 0, none⟩)] w fun e w' => ∃ d : List UInt8, e = .returned (.tuple #[str d, .int .i64 (if 0 < ks.length then 6 else 0)]) ∧ Ext [] w w' := by
  obtain ⟨D, V, h1, h2, h3⟩ := h.dev
  refine (h1.data7 h2).mono ?_
  rintro e w' ⟨rfl, hx⟩
  rw [h3.data hgd hbd h.hb]
  exact ⟨_, rfl, hx⟩
theorem HarmW.opens (h : HarmW w0 q b sv t m O sl ks gd bd x w) :
    Calls Try.prog 13 #[.pointer (some ⟨b, 0, none⟩), .int .i64 0] w fun e w' => ∃ q' sv', e = .returned (.tuple #[.pointer (some ⟨q', 0, none⟩), .int .i64 0]) ∧ HarmW w0 q' b sv' t m O sl ks gd bd x w' := by
  obtain ⟨D, V, h1, h2, h3⟩ := h.dev
  have c := open7_o (h1.dev.sub (O' := O) (fun z hz => by simp [hz])) h2 0 (by omega) (by omega)
  rw [h3.open h.hr] at c
  refine c.mono ?_
  rintro e w' ⟨q', sv', rfl, hs, hx, -⟩
  exact ⟨q', sv', rfl, h.turn hs (Kept.of hx) h2 h3⟩
theorem HarmW.scrubs (h : HarmW w0 q b sv t m O sl ks gd bd x w) (hx : x = 0 ∨ x = 1) :
    Calls Try.prog 32 #[.pointer (some ⟨q, 0, none⟩)] w fun e w' => e = .returned (.int .i64 0) ∧ HarmW w0 q b sv t m O sl ks gd bd (-1) w' := by
  obtain ⟨D, V, h1, h2, h3⟩ := h.dev
  have hl := h.len
  have hri := h.hr
  have hX : scrubX (sH t) V D = copsD (sH t) (sH t).area (sH t).list D := by
    unfold scrubX
    rw [if_neg (sH_area t), if_neg]
    rw [sH_b, sH_b]
    rintro ⟨⟨e1, -⟩, e2, -⟩
    rcases hx with rfl | rfl
    · exact h3.cx (.inl rfl) e1
    · exact h3.cx (.inr rfl) e2
  have hrun := h2.runs [[copR (sH t) (sH t).area (sH t).list 0], [copR (sH t) (sH t).area (sH t).list 1]] (by
    intro l hl2 c hc
    simp only [List.mem_cons, List.not_mem_nil, or_false] at hl2
    rcases hl2 with rfl | rfl
    · simp only [List.mem_cons, List.not_mem_nil, or_false] at hc
      subst hc
      exact ⟨by simp [copR, Sto.b, sH], by simp [copR, Sto.b, sH], recL_put hri⟩
    · simp only [List.mem_cons, List.not_mem_nil, or_false] at hc
      subst hc
      exact ⟨by simp [copR, Sto.b, sH], by simp [copR, Sto.b, sH], recL_put hri⟩)
  have c := h1.scrub7 h2
  rw [hX] at c
  have e0 : (copsD (sH t) (sH t).area (sH t).list D).1 = 0 := hrun.1
  rw [e0] at c
  refine c.mono ?_
  rintro e w' ⟨rfl, hs, hk⟩
  refine ⟨rfl, h.turn hs hk hrun.2 ?_⟩
  have e : [[copR (sH t) (sH t).area (sH t).list 0], [copR (sH t) (sH t).area (sH t).list 1]].flatten = [copR (sH t) (sH t).area (sH t).list 0, copR (sH t) (sH t).area (sH t).list 1] := rfl
  rw [e]
  have := h3.copies hri
  have e2 : putsV [copR (sH t) (sH t).area (sH t).list 0, copR (sH t) (sH t).area (sH t).list 1] V = setF (setF V 0 (1, recL (ofL 7 2 t))) 1 (1, recL (ofL 7 2 t)) := by
    simp [putsV, copR, sH, Sto.b]
  rw [e2]
  exact this
/-- A piece that is not it mends nothing. -/
theorem HarmW.mendx (h : HarmW w0 q b sv t m O sl ks gd bd x w) (k : Int) (d : List UInt8) (hd : d.length ≤ 1000000) (hk : ¬ mendOk (sH t) k d) :
    Calls Try.prog 19 #[.pointer (some ⟨q, 0, none⟩), .int .i64 k, str d] w fun e w' => e = .returned (.int .i64 1) ∧ HarmW w0 q b sv t m O sl ks gd bd x w' ∧ Kept O w w' := by
  obtain ⟨D, V, h1, h2, h3⟩ := h.dev
  have c := h1.mend7 k d hd (by have := h2.since; omega)
  have e : mendX (sH t) k d D = (1, D) := if_neg hk
  rw [e] at c
  refine c.mono ?_
  rintro e w' ⟨rfl, hs, hk2⟩
  exact ⟨rfl, h.turn hs hk2 h2 h3, hk2⟩
theorem mend_self (t : List UInt8) (k : Nat) (hk : k < (cutL t).length) : mendOk (sH t) k (cutL t)[k] := by
  refine ⟨?_, ?_, ?_⟩
  · have e1 := sH_len t
    have e2 : (sH t).area = 0 := rfl
    omega
  · show _ = (ofL 7 2 t).sums.getD (k : Int).toNat 0
    simp [ofL, List.getD, hk]
  · have hp := (cutL_piece t k hk).1
    show ((cutL t)[k].length : Int) = min 400 ((t.length : Int) - (k : Int) * 400)
    omega
theorem mend_long (t : List UInt8) (k : Nat) (hk : k < (cutL t).length) (d : List UInt8) (hd : d.length = (cutL t)[k].length + 1) : ¬ mendOk (sH t) k d := by
  intro h
  have h1 := h.2.2
  have h2 := (mend_self t k hk).2.2
  omega
theorem HarmW.mend (h : HarmW w0 q b sv t m O sl ks gd bd x w) (k : Nat) (hk : k < (cutL t).length) :
    Calls Try.prog 19 #[.pointer (some ⟨q, 0, none⟩), .int .i64 (k : Int), str (cutL t)[k]] w fun e w' => e = .returned (.int .i64 0) ∧ HarmW w0 q b sv t m O sl ks (fun j => gd j ∨ j = k) (fun j => bd j ∧ j ≠ k) x w' ∧ Kept O w w' := by
  obtain ⟨D, V, h1, h2, h3⟩ := h.dev
  have hl := h.len
  have hp := (cutL_piece t k hk).2.2.1
  have c := h1.mend7 (k : Int) (cutL t)[k] (by omega) (by have := h2.since; omega)
  have e : mendX (sH t) k (cutL t)[k] D = wrf [(2 + (k : Int), chunkRec 7 k (cutL t)[k])] D := by
    unfold mendX
    rw [if_pos (mend_self t k hk)]
    unfold mendW
    rw [sH_b]
    rfl
  rw [e] at c
  have hw := h2.wrf (l := [(2 + (k : Int), chunkRec 7 k (cutL t)[k])]) (by
    intro c hc
    simp only [List.mem_cons, List.not_mem_nil, or_false] at hc
    subst hc
    exact ⟨by show 0 ≤ 2 + (k : Int); omega, by show 2 + (k : Int) < 200; omega, chunk_put (by omega) (by omega) hp⟩)
  rw [hw.1] at c
  refine c.mono ?_
  rintro e w' ⟨rfl, hs, hk2⟩
  exact ⟨rfl, h.turn hs hk2 hw.2 (h3.mended k hk hl), hk2⟩
end
end Go.Proofs.Ytlnfigbcdmfmdaa
namespace Go.Proofs.Ytlnfigbcdmfmdaa
open Go.RowKit
set_option linter.unusedVariables false
set_option linter.unusedSimpArgs false
theorem i64_and4095 (n : Int) : bits .and .i64 n 4095 = n % 4096 := i64_mask n 4095 12 (by decide) (by decide)
attribute [local go_sem] i64_and4095 i64_and65535 i64_and255 i64_and1
theorem zero_boolH (W : World) : (zeroValue 4).run Try.prog W = .ok (.bool false) W := by kernel_rfl

section
variable {n : Int} {D : Dv} {base : Int} {V V' : Int → Sl} {s : Sto} {x : Shot} {i t : Int} {d : List UInt8}
theorem putsV_copies (s : Sto) (a : Int) (l : List (Int × Rc)) (m : Ls) (V : Int → Sl) :
    putsV [l, [copR s a m 0], [copR s a m 1]].flatten V (s.b a 0) = (1, recL m) ∧ putsV [l, [copR s a m 0], [copR s a m 1]].flatten V (s.b a 1) = (1, recL m) := by
  have e : [l, [copR s a m 0], [copR s a m 1]].flatten = (l ++ [copR s a m 0]) ++ [copR s a m 1] := by simp
  rw [e, putsV_snoc, putsV_snoc]
  have n01 : s.b a 0 ≠ s.b a 1 := by unfold Sto.b; omega
  exact ⟨(setF_other _ _ _ _ n01).trans (setF_same _ _ _), setF_same _ _ _⟩
/-- Put, with power: the copies too. -/
theorem Good.putB (h : Good base V s x) (hf : Fine0 D n V) (hb : 0 ≤ base) (hn : base + 132 ≤ n) (hi : x.i < i) (hr : (ofL i t d).right) :
    ∃ D' V', putX s i t d D = (0, D', putS s (ofL i t d)) ∧ Fine0 D' n V' ∧ Good base V' (putS s (ofL i t d)) ⟨i, t, d⟩ ∧ V' (s.b (putA s) 0) = (1, recL (ofL i t d)) ∧ V' (s.b (putA s) 1) = (1, recL (ofL i t d)) := by
  have hl := put_lists h hb hn hr
  obtain ⟨e1, e2⟩ := hf.fine.runs _ hl
  have h0 : 0 ≤ n := by omega
  refine ⟨(putR s i t d D).2, _, ?_, ⟨e2, ?_⟩, h.put hi hr, (putsV_copies s (putA s) (chW s (putA s) i d) (ofL i t d) V).1, (putsV_copies s (putA s) (chW s (putA s) i d) (ofL i t d) V).2⟩
  · unfold putX
    rw [if_pos (h.ok hi hr)]
    have e : (putR s i t d D).1 = 0 := e1
    rw [e, if_pos rfl]
  · rcases runs_crash _ hf.calm0 h0 hl [] with ⟨_, hc⟩ | ⟨hc, _⟩
    · exact hc.lost
    · rw [e1] at hc; exact absurd hc (by decide)
end
/-- Behind the put nothing is damaged. -/
theorem Hm.start {V : Int → Sl} {t : List UInt8} (h : Good 0 V (sH t) ⟨7, 2, t⟩) (h0 : V 0 = (1, recL (ofL 7 2 t))) (h1 : V 1 = (1, recL (ofL 7 2 t))) : Hm V t (fun k => k ∉ ([] : List Int)) (fun k => k ∈ ([] : List Int)) (-1) := by
  obtain ⟨h2, h3⟩ := h.som (show (7 : Int) ≠ 0 by decide)
  refine ⟨fun k hk _ => ?_, fun k hk hb => absurd hb (by simp), fun p hp _ => ?_, fun hx => by omega, fun j hj2 hj4 => ?_⟩
  · have := h2.whole k hk
    rwa [sH_b] at this
  · rcases hp with rfl | rfl
    · exact h0
    · exact h1
  · rcases h3.1 j hj4 with ⟨-, e⟩ | hu
    · have e2 : (sH t).area = 0 := rfl
      rw [e2] at e
      omega
    · exact hu
/-- All is mended: the store holds the snapshot. -/
theorem Hm.ends {V : Int → Sl} {t : List UInt8} {gd bd : Int → Prop} {x : Int} (h : Hm V t gd bd x) (hr : (ofL 7 2 t).right) (hg : ∀ k : Nat, k < (cutL t).length → gd k) : Good 0 V (sH t) ⟨7, 2, t⟩ :=
  ⟨rfl, by show (0 : Int) ≤ 7; decide, fun e => absurd e (by show ¬ (7 : Int) = 0; decide), fun _ => ⟨⟨.inl rfl, rfl, hr, fun k hk => by rw [sH_b]; exact h.good k hk (hg k hk)⟩, h.top hr⟩⟩
set_option maxRecDepth 100000 in
set_option maxHeartbeats 25600000 in
theorem harms7_any (nn : Int) (hn : -9223372036854775808 ≤ nn ∧ nn ≤ 9223372036854775807) (sd : Int) (hsd : -9223372036854775808 ≤ sd ∧ sd ≤ 9223372036854775807) {w0 : World} (a : Option Addr) (len cap : Nat) (ns : List Int) (hR : Rd w0 1 (.slice a len cap) len (ns.map (Value.int .i64))) (hwf0 : ∀ x ∈ ns, (Lit.int .i64 x).wf = true) (c : UInt8) (wh : Int) (hwh : -9223372036854775808 ≤ wh ∧ wh ≤ 9223372036854775807) :
    Calls Try.prog 9 #[.int .i64 nn, .int .i64 sd, .slice a len cap, .int .u8 (c.toNat : Int), .int .i64 wh] w0 fun e w' => e = .returned (.bool true) ∧ Ext [] w0 w' := by
  have hl : ns.length = len := by have := hR.len.2.2.2; simp at this; omega
  have hwf : ∀ x ∈ ns, -9223372036854775808 ≤ x ∧ x ≤ 9223372036854775807 := fun x hx => wf_i64 (hwf0 x hx)
  have hlm : len ≤ 9223372036854775807 := by have := hR.len; unfold maxLen at this; omega
  have HR := Hid.of hR
  have HL := Hid.of hl
  have HWf := Hid.of hwf
  clear hR hl hwf hwf0
  go_enter Try.func9, Try.ntmps9
  go_wp2_with fail
  refine (head7_any w0).mono ?_
  rintro e w1 ⟨rfl, hx1⟩
  by_cases h20 : 20 < (len : Int)
  · go_wp2
    go_ret
    exact ⟨rfl, hx1⟩
  go_wp2_with fail
  refine (text7_any (nn % 4096) sd w1 (by omega)).mono ?_
  rintro e w2 ⟨tx, rfl, htl, hx2⟩
  have htl2 : (tx.length : Int) = nn % 4096 := by omega
  have hN : 0 ≤ nn % 4096 ∧ nn % 4096 < 4096 := by omega
  generalize nn % 4096 = N at htl htl2 hN ⊢
  have hL0 : tx.length < 4096 := by omega
  have HX2 := Hid.of (hx1.then0 hx2)
  clear hx1 hx2 htl htl2
  go_wp2_with fail
  refine (new_n 200 w0 w2 HX2.out).mono ?_
  rintro e w3 ⟨b, rfl, hd, hx3⟩
  have hf := Fine0.new 200 (by omega) (by omega)
  have HF := Hid.of hf
  have HD := Hid.of hd.o
  clear hd hf hx3 HX2
  go_wp2_with fail
  refine (open7_o HD.out HF.out.fine 0 (by omega) (by omega)).mono ?_
  rintro e w4 ⟨q, sv, rfl, hs, hx4, hq⟩
  have hg := Good.new 0
  rw [hg.open] at hs
  have hr : (ofL 7 2 tx).right := text_right (by omega) (by omega) (by omega)
  obtain ⟨D', V', hX, hf', hg', hv0, hv1⟩ := hg.putB HF.out (by omega) (by omega) (show (0 : Int) < 7 by omega) hr
  have cp := hs.put7 7 2 tx (by omega) (by simp [newD])
  rw [hX] at cp
  unfold PutTo at cp
  simp only at cp
  have hsH : putS ⟨0, -1, Ls.zero⟩ (ofL 7 2 tx) = sH tx := rfl
  rw [hsH] at cp hg'
  have HM := Hid.of (Hm.start hg' hv0 hv1)
  have HF' := Hid.of hf'
  have HRt := Hid.of hr
  clear hs hx4 hq HD hg hX hf' hg' hv0 hv1 hsH HF hr
  go_wp2_with fail
  refine cp.mono ?_
  rintro e w5 ⟨sv', rfl, hs5, hk5⟩
  have HS5 := Hid.of hs5
  clear cp hs5 hk5
  go_wp2_with fail
  refine (cut_any tx w5 (by omega)).mono ?_
  rintro e w6 ⟨ss, rfl, ho6, hx6, hv6⟩
  obtain ⟨nk, hnk⟩ : ∃ m, m = (cutL tx).length := ⟨_, rfl⟩
  obtain ⟨za, zc, rfl⟩ := Rd.isSlice ho6.rd
  rw [← hnk] at ho6 ⊢
  have hnk1 : nk ≤ 11 := by rw [hnk, cutL_length]; omega
  obtain ⟨Lz, hLz, hS6⟩ : ∃ Lz, (∀ z ∈ vblocks (.slice za nk zc), z ∈ Lz) ∧ StM w0 w6 q b sv' D' (sH tx) 200 Lz := by
    cases za with
    | none => exact ⟨[], by simp [vblocks], HS5.out.keep hx6⟩
    | some p => exact ⟨[p.block], by simp [vblocks], HS5.out.add hx6 p.block (hv6 _ (by simp [vblocks])) (Own.lt ho6 _ (by simp [vblocks]))⟩
  have HZ6 : Hid (Rd w6 1 (.slice za nk zc) nk ((cutL tx).map str)) := Hid.of ho6.rd
  have HS6 := Hid.of hS6
  have HLz := Hid.of hLz
  have HNk := Hid.of hnk
  have HZlt := Hid.of (Own.lt ho6)
  clear ho6 hx6 hv6 hnk HS5 hS6 hLz
  have hmm := @run_makeMap Try.prog
  go_upto_region 13 with fail
  clear hmm
  obtain ⟨w7, hw7⟩ : ∃ w, w = w6.alloc (.map #[] 0) := ⟨_, rfl⟩
  obtain ⟨m, hm⟩ : ∃ m, m = w6.heap.size := ⟨_, rfl⟩
  rw [← hw7, ← hm]
  have hm7 : SetAt w7 m [] := by rw [hw7]; exact SetAt.newg hm.symm
  have hx7 : Ext [] w6 w7 := by rw [hw7]; exact (Ext.refl _ _).alloc _
  have HW7 : Hid (HarmW w0 q b sv' tx m (m :: Lz) (.slice za nk zc) [] (fun k => k ∉ ([] : List Int)) (fun k => k ∈ ([] : List Int)) (-1) w7) := Hid.of
    ⟨⟨D', V', HS6.out.add hx7 m (by omega) (SetAt.lt hm7), HF'.out.fine, HM.out⟩, hm7, by rw [← HNk.out]; exact HZ6.out.keep hx7 (by simp), List.mem_cons_self, fun z hz => List.mem_cons_of_mem _ (HLz.out z hz), by have := HS6.out.dev.ext.size; omega, fun hz => by have := HZlt.out m hz; omega, HRt.out, by simp⟩
  clear hw7 hm hm7 hx7 HS6 HF' HM HZ6 HLz HZlt HRt
  go_upto_block 0 with fail
  go_cut [] (fun wx => ∃ bads : List Int, Hid (HarmW w0 q b sv' tx m (m :: Lz) (.slice za nk zc) bads (fun k => k ∉ bads) (fun k => k ∈ bads) (-1) wx))
  case first =>
    go_wp2_with fail
    go_loopw [62] (fun u62 wr => ∃ (i : Nat) (bads : List Int), u62 = .int .i64 (i : Int) ∧ i ≤ len ∧ Hid (HarmW w0 q b sv' tx m (m :: Lz) (.slice za nk zc) bads (fun k => k ∉ bads) (fun k => k ∈ bads) (-1) wr)) (fun u62 _ => len - (intOf u62).toNat)
    case atStart => exact ⟨0, [], rfl, by omega, HW7⟩
    case round =>
      clear HW7
      obtain ⟨i, bads, rfl, hi, HW⟩ := hrel
      by_cases hil : i < len
      · obtain ⟨g, off, rfl, hgw, hc⟩ := (HR.out.keep HW.out.ext (by simp) : Rd wr 1 _ _ _).view (by omega)
        have hin : i < ns.length := by have := HL.out; omega
        obtain ⟨y, hy⟩ : ∃ y, ns[i]? = some y := ⟨_, List.getElem?_eq_getElem hin⟩
        have c0 : wr.cell? ⟨g, off + i, none⟩ = some (.int .i64 y) := hc i _ (by rw [List.getElem?_map, hy]; rfl)
        have hyb := HWf.out y (List.mem_of_getElem? hy)
        clear hc hgw hy hin
        by_cases hnk0 : nk = 0
        · go_wp2_with fail
          go_meet
          exact ⟨bads, HW⟩
        · obtain ⟨k, hkk⟩ : ∃ k : Nat, y % 256 % (nk : Int) = (k : Int) := ⟨(y % 256 % (nk : Int)).toNat, by rw [Int.toNat_of_nonneg (Int.emod_nonneg _ (by omega))]⟩
          have hk2 : k < nk := by have := Int.emod_lt_of_pos (y % 256) (show (0 : Int) < nk by omega); omega
          have hkc : k < (cutL tx).length := by have := HNk.out; omega
          have hlk := HW.out.mp.lookup (P := Try.prog) Try.underlying75 Try.underlying3 zero_boolH (k : Int)
          by_cases hkb : (k : Int) ∈ bads
          · rw [decide_eq_true hkb] at hlk
            clear hkb
            go_wp2
            go_roundw
            case rel => exact ⟨i + 1, bads, by go_num, by omega, HW⟩
            case measure => simp [intOf]; omega
          · rw [decide_eq_false hkb] at hlk
            obtain ⟨wu, hup, hsu, hxu⟩ := HW.out.mp.insert (P := Try.prog) Try.underlying75 Try.underlying3 (k : Int) hkb
            have HWu := Hid.of (HW.out.key (k := (k : Int)) ⟨by omega, by omega⟩ hsu hxu)
            have HKb := Hid.of hkb
            clear hsu hxu hkb
            by_cases hc0 : c = 0
            · have hcn : ((c.toNat : Int) == 0) = true := by rw [hc0]; rfl
              clear hc0
              go_wp2_with fail
              refine (HWu.out.lose k hkc).mono ?_
              rintro e w8 ⟨rfl, h8⟩
              have H8 := Hid.of (h8.mono (gd' := fun j => j ∉ bads ++ [(k : Int)]) (bd' := fun j => j ∈ bads ++ [(k : Int)]) (fun j _ hj => by simpa using hj) (fun j _ hj => by simpa using hj))
              clear h8 HWu HW hup hlk c0 HKb
              go_wp2
              go_roundw
              case rel => exact ⟨i + 1, _, by go_num, by omega, H8⟩
              case measure => simp [intOf]; omega
            · have hcn : ¬ (c.toNat : Int) = 0 := fun h => hc0 (UInt8.toNat_inj.1 (by show c.toNat = 0; omega))
              have HC0 := Hid.of hc0
              clear hc0
              go_wp2_with fail
              refine (HWu.out.flip k hkc HKb.out _ ?hat c HC0.out).mono ?_
              case hat => omega
              rintro e w8 ⟨rfl, h8⟩
              have H8 := Hid.of (h8.mono (gd' := fun j => j ∉ bads ++ [(k : Int)]) (bd' := fun j => j ∈ bads ++ [(k : Int)]) (fun j _ hj => by simpa using hj) (fun j _ hj => by simpa using hj))
              clear h8 HWu HW hup hlk c0 HKb
              go_wp2
              go_roundw
              case rel => exact ⟨i + 1, _, by go_num, by omega, H8⟩
              case measure => simp [intOf]; omega
      · go_wp2_with fail
        go_meet
        exact ⟨bads, HW⟩
  case rest =>
    obtain ⟨bads, HW8⟩ := hcut
    obtain ⟨w8, hw8⟩ : ∃ w, w = wc := ⟨_, rfl⟩
    rw [← hw8] at HW8 ⊢
    clear hw8 HW7 HR HL HWf
    obtain ⟨xb, hxb, hxb2⟩ : ∃ xb : Int, bits .xor .i64 (wh % 2) 1 = xb ∧ (xb = 0 ∨ xb = 1) := by
      rcases (by omega : wh % 2 = 0 ∨ wh % 2 = 1) with e | e
      · rw [e]; exact ⟨1, by decide, .inr rfl⟩
      · rw [e]; exact ⟨0, by decide, .inl rfl⟩
    go_wp2_with fail
    refine (HW8.out.losec (wh % 2) (by omega)).mono ?_
    rintro e w9 ⟨rfl, h9⟩
    have HW9 := Hid.of h9
    have HBl : Hid (bads.length ≤ 64) := Hid.of (by
      have h1 := h9.mp.nodup
      obtain ⟨D, V, -, -, h3⟩ := h9.dev
      obtain ⟨h4, -⟩ := h3.hurts (bads := bads) (fun _ h => h) (fun _ h => h) h1 h9.hb
      rw [← h4]
      exact Nat.le_trans (Sto.hurtN_len _ _ _) (by rw [sH_len]; exact h9.len))
    have hbl := HBl.out
    obtain ⟨hn, hhn⟩ : ∃ hn, hn = bads.length := ⟨_, rfl⟩
    have HHn := Hid.of hhn
    rw [← hhn] at hbl
    clear h9 HW8 HBl hhn
    go_wp2_with fail
    go_loopw [13, 20] (fun u13 u20 wr => ∃ (i q : Nat) (sv : Value) (x : Int), u13 = .pointer (some ⟨q, 0, none⟩) ∧ u20 = .int .i64 (i : Int) ∧ i ≤ 2 ∧ (x = 0 ∨ x = 1) ∧ Hid (HarmW w0 q b sv tx m (m :: Lz) (.slice za nk zc) bads (fun k => k ∉ bads) (fun k => k ∈ bads) x wr)) (fun _ u20 _ => 2 - (intOf u20).toNat)
    case atStart => exact ⟨0, q, sv', _, rfl, rfl, by omega, by omega, HW9⟩
    case round =>
      clear HW9
      obtain ⟨i, q, sv, x, rfl, rfl, hi, hx01, HW⟩ := hrel
      by_cases hi2 : i < 2
      · have hi3 : decide ((i : Int) < 2) = true := decide_eq_true (by omega)
        go_wp2_with fail
        refine (HW.out.hurts (fun _ h => h) (fun _ h => h)).mono ?_
        rintro e w10 ⟨ha, hcap, l, rfl, hll, hlm, hrl, hx10⟩
        have H10 := Hid.of (HW.out.keep hx10)
        have HLl := Hid.of hll
        have HLm := Hid.of hlm
        rw [← HHn.out] at hrl ⊢
        have HRl := Hid.of hrl
        have hlen := fun ty => H10.out.mp.len (P := Try.prog) Try.underlying75 ty
        rw [← HHn.out] at hlen
        clear HW hx10 hll hlm hrl
        go_wp2_with fail
        clear hlen
        go_loopw [111] (fun u111 wr => ∃ j : Nat, u111 = .int .i64 (j : Int) ∧ j ≤ hn ∧ Hid (Ext [] w10 wr)) (fun u111 _ => hn - (intOf u111).toNat)
        case atStart => exact ⟨0, rfl, by omega, Hid.of (Ext.refl _ _)⟩
        case round =>
          obtain ⟨j, rfl, hj, hX⟩ := hrel
          by_cases hjl : j < hn
          · obtain ⟨g, off, rfl, -, hc⟩ := (HRl.out.keep hX.out (by simp) : Rd wr 1 _ _ _).view (by omega)
            have hjn : j < l.length := by have h1 := HHn.out; have h2 := HLl.out; omega
            obtain ⟨y, hy⟩ : ∃ y, l[j]? = some y := ⟨_, List.getElem?_eq_getElem hjn⟩
            have c0 : wr.cell? ⟨g, off + j, none⟩ = some (.int .i64 y) := hc j _ (by rw [List.getElem?_map, hy]; rfl)
            have hyk := HLm.out y (List.mem_of_getElem? hy)
            have cc := (H10.out.keep hX.out).chunkb y (H10.out.hb y hyk) hyk
            have HYk := Hid.of hyk
            clear hc hy hjn hyk
            go_wp2_with fail
            refine cc.mono ?_
            rintro e w11 ⟨rfl, hx11⟩
            have HX11 := Hid.of (hX.out.then0 hx11)
            have hlk := (H10.out.keep HX11.out).mp.lookup (P := Try.prog) Try.underlying75 Try.underlying3 zero_boolH y
            rw [decide_eq_true HYk.out] at hlk
            clear cc hx11 c0
            go_wp2
            go_roundw
            case rel => exact ⟨j + 1, by go_num, by omega, HX11⟩
            case measure => simp [intOf]; omega
          · obtain ⟨w12, hw12⟩ : ∃ w, w = wr := ⟨_, rfl⟩
            rw [← hw12] at hX ⊢
            have H12 := Hid.of (H10.out.keep hX.out)
            clear hw12 hX H10 HRl HLl HLm
            go_wp2_with fail
            go_loopw [132] (fun u132 wr => ∃ j : Nat, u132 = .int .i64 (j : Int) ∧ j ≤ nk ∧ Hid (Ext [] w12 wr)) (fun u132 _ => nk - (intOf u132).toNat)
            case atStart => exact ⟨0, rfl, by omega, Hid.of (Ext.refl _ _)⟩
            case round =>
              clear hj hjl
              obtain ⟨j, rfl, hj, hX⟩ := hrel
              by_cases hjl : j < nk
              · have hrd : Rd wr 1 (.slice za nk zc) nk ((cutL tx).map str) := by
                  have := H12.out.rd.keep hX.out (by simp)
                  rw [← HNk.out] at this
                  exact this
                obtain ⟨g, off, rfl, -, hc⟩ := hrd.view (by omega)
                have hjc : j < (cutL tx).length := by have := HNk.out; omega
                have c0 : wr.cell? ⟨g, off + j, none⟩ = some (str (cutL tx)[j]) := hc j _ (by rw [List.getElem?_map, List.getElem?_eq_getElem hjc]; rfl)
                clear hc hrd
                by_cases hjb : (j : Int) ∈ bads
                · have cc := (H12.out.keep hX.out).chunkb (j : Int) (H12.out.hb _ hjb) hjb
                  have HJb := Hid.of hjb
                  generalize (cutL tx)[j] = y at c0
                  clear hjb hjc
                  go_wp2_with fail
                  refine cc.mono ?_
                  rintro e w11 ⟨rfl, hx11⟩
                  have HX11 := Hid.of (hX.out.then0 hx11)
                  have hlk := (H12.out.keep HX11.out).mp.lookup (P := Try.prog) Try.underlying75 Try.underlying3 zero_boolH (j : Int)
                  rw [decide_eq_true HJb.out] at hlk
                  clear cc hx11 c0
                  go_wp2
                  go_roundw
                  case rel => exact ⟨j + 1, by go_num, by omega, HX11⟩
                  case measure => simp [intOf]; omega
                · have cc := (H12.out.keep hX.out).chunkg j hjc hjb
                  have HJb := Hid.of hjb
                  generalize (cutL tx)[j] = y at c0 cc
                  clear hjb hjc
                  go_wp2_with fail
                  refine cc.mono ?_
                  rintro e w11 ⟨rfl, hx11⟩
                  have HX11 := Hid.of (hX.out.then0 hx11)
                  have hlk := (H12.out.keep HX11.out).mp.lookup (P := Try.prog) Try.underlying75 Try.underlying3 zero_boolH (j : Int)
                  rw [decide_eq_false HJb.out] at hlk
                  clear cc hx11 c0
                  go_wp2
                  go_roundw
                  case rel => exact ⟨j + 1, by go_num, by omega, HX11⟩
                  case measure => simp [intOf]; omega
              · obtain ⟨w13, hw13⟩ : ∃ w, w = wr := ⟨_, rfl⟩
                rw [← hw13] at hX ⊢
                have H13 := Hid.of (H12.out.keep hX.out)
                clear hw13 hX H12
                go_wp2_with fail
                refine (H13.out.datas (fun _ h => h) (fun _ h => h)).mono ?_
                rintro e w14 ⟨d, rfl, hx14⟩
                have H14 := Hid.of (H13.out.keep hx14)
                have hlen := fun ty => H14.out.mp.len (P := Try.prog) Try.underlying75 ty
                rw [← HHn.out] at hlen ⊢
                obtain ⟨E, hE⟩ : ∃ E : Int, (if 0 < hn then 6 else 0) = E := ⟨_, rfl⟩
                have eE : (E == 6) = decide (0 < (hn : Int)) := by
                  rw [← hE]
                  by_cases h : 0 < hn
                  · rw [if_pos h, decide_eq_true (by omega)]; rfl
                  · rw [if_neg h, decide_eq_false (by omega)]; rfl
                rw [hE]
                clear hx14 H13 hE
                go_wp2_with fail
                refine H14.out.opens.mono ?_
                rintro e w15 ⟨q2, sv2, rfl, h15⟩
                have H15 := Hid.of h15
                clear h15 hlen eE H14
                go_wp2_with fail
                refine (H15.out.scrubs hx01).mono ?_
                rintro e w16 ⟨rfl, h16⟩
                have H16 := Hid.of h16
                clear h16 H15
                go_wp2_with fail
                refine (H16.out.losec xb hxb2).mono ?_
                rintro e w17 ⟨rfl, h17⟩
                have H17 := Hid.of h17
                clear h17 H16
                go_wp2
                go_roundw
                case rel => exact ⟨i + 1, q2, sv2, xb, rfl, by go_num, by omega, hxb2, H17⟩
                case measure => simp [intOf]; omega
      · have hi3 : decide ((i : Int) < 2) = false := decide_eq_false (by omega)
        obtain ⟨w20, hw20⟩ : ∃ w, w = wr := ⟨_, rfl⟩
        rw [← hw20] at HW ⊢
        obtain ⟨es, clock, hE⟩ := HW.out.mp
        obtain ⟨hrun, hra⟩ := hE.range (P := Try.prog) Try.underlying75
        obtain ⟨r, hr⟩ : ∃ r, r = w20.heap.size := ⟨_, rfl⟩
        obtain ⟨w21, hw21⟩ : ∃ w, w = w20.alloc (.mapIter (some m) clock #[] clock) := ⟨_, rfl⟩
        rw [← hr, ← hw21] at hrun
        rw [← hr, ← hw21] at hra
        have hx21 : Ext [] w20 w21 := by rw [hw21]; exact (Ext.refl _ _).alloc _
        have hrl : r < w21.heap.size := by rw [hw21, hr]; simp
        have HW21 := Hid.of ((HW.out.add hx21 r (by omega) hrl).mono (gd' := fun j => j ∉ bads ∨ ∃ e ∈ es.toList, e.key = .int .i64 j ∧ (#[] : Array Nat).contains e.born = true) (bd' := fun _ => False) (fun j _ hj => by
          rcases hj with hj | ⟨e, -, -, he⟩
          · exact hj
          · simp at he) (fun j _ hj => hj.elim))
        have HE21 : Hid (SetE w21 m es clock bads) := Hid.of ⟨hx21.heap (by simp) hE.1, hE.2⟩
        have HR21 := Hid.of hra
        have HRm : Hid (r ≠ m ∧ r ∉ vblocks (.slice za nk zc) ∧ w0.heap.size ≤ r) := Hid.of (by
          have h1 := hE
          have h2 := SetAt.lt ⟨es, clock, hE⟩
          refine ⟨by omega, fun hz => ?_, by have := HW.out.ext.size; omega⟩
          obtain ⟨D, V, h3, -⟩ := HW.out.dev
          have h4 := h3.lt r (HW.out.zO r hz)
          omega)
        clear hra hx21 hrl hE hw21 hr HW hw20
        go_wp2_with fail
        go_loopw [] (fun wr => ∃ seen : Array Nat, Hid (SetE wr m es clock bads) ∧ Hid (RngAt wr r m es clock seen) ∧ Hid (HarmW w0 q b sv tx m (r :: m :: Lz) (.slice za nk zc) bads (fun j => j ∉ bads ∨ ∃ e ∈ es.toList, e.key = .int .i64 j ∧ seen.contains e.born = true) (fun _ => False) x wr)) (fun wr => (leftOf es (wr.iterSeen r)).size)
        case atStart => exact ⟨#[], HE21, HR21, HW21⟩
        case round =>
          clear HE21 HR21 HW21 hrun
          obtain ⟨seen, HE, HRa, HW⟩ := hrel
          rcases HE.out.next (P := Try.prog) HRa.out with ⟨hdone, hnx⟩ | ⟨k, e, w22, hk, he, hek, hnx, hent, hxn, hra2, hlt⟩
          · have hall : Hid (∀ j : Nat, j < (cutL tx).length → ((j : Int) ∉ bads ∨ ∃ e ∈ es.toList, e.key = .int .i64 (j : Int) ∧ seen.contains e.born = true)) := Hid.of (fun j _ => by
              by_cases hj : (j : Int) ∈ bads
              · exact .inr (hdone _ hj)
              · exact .inl hj)
            obtain ⟨D9, V9, h1, h2, h3⟩ := HW.out.dev
            have c1 := holds7 h1 h2 (h3.ends HW.out.hr hall.out) (by show tx.length ≤ 1000000; omega)
            have HOut : Hid (¬ mendOk (sH tx) (nk : Int) []) := Hid.of (fun h => by
              have h4 := h.1
              rw [sH_len, ← HNk.out] at h4
              omega)
            clear h1 h2 h3 hall hdone
            go_wp2_with fail
            refine c1.mono ?_
            rintro e w23 ⟨rfl, hx23⟩
            have H23 := Hid.of (HW.out.keep hx23)
            clear c1 hx23 HW
            go_wp2_with fail
            refine (H23.out.mendx (nk : Int) [] (by simp) HOut.out).mono ?_
            rintro e w24 ⟨rfl, h24, -⟩
            have HXe := Hid.of h24.ext
            clear h24
            go_wp2
            go_ret
            exact ⟨rfl, HXe.out⟩
          · obtain ⟨hk0, hk1⟩ := HW.out.hb k hk
            obtain ⟨kn, rfl⟩ : ∃ kn : Nat, k = kn := ⟨k.toNat, by omega⟩
            have hkc : kn < (cutL tx).length := by omega
            have hkn : kn < nk := by have := HNk.out; omega
            have H22 := Hid.of (HW.out.other hxn List.mem_cons_self HRm.out.2.2 HRm.out.1 HRm.out.2.1)
            have HE22 : Hid (SetE w22 m es clock bads) := Hid.of ⟨hxn.heap (by simpa using fun e => HRm.out.1 e.symm) HE.out.1, HE.out.2⟩
            have HR22 := Hid.of hra2
            have HLt : Hid ((leftOf es (seen.push e.born)).size < (leftOf es (wr.iterSeen r)).size) := Hid.of (by rw [HRa.out.seen]; exact hlt)
            have HEk : Hid (e ∈ es.toList ∧ e.key = .int .i64 (kn : Int)) := Hid.of ⟨he, hek⟩
            have hrd : Rd w22 1 (.slice za nk zc) nk ((cutL tx).map str) := by
              have := H22.out.rd
              rw [← HNk.out] at this
              exact this
            obtain ⟨g, off, rfl, -, hc⟩ := hrd.view (by omega)
            have c0 : w22.cell? ⟨g, off + kn, none⟩ = some (str (cutL tx)[kn]) := hc kn _ (by rw [List.getElem?_map, List.getElem?_eq_getElem hkc]; rfl)
            have hyl := (cutL_piece tx kn hkc).2.2.1
            have cm := fun w (h : HarmW w0 q b sv tx m (r :: m :: Lz) (.slice (some ⟨g, off, none⟩) nk zc) bads (fun j => j ∉ bads ∨ ∃ e ∈ es.toList, e.key = .int .i64 j ∧ seen.contains e.born = true) (fun _ => False) x w) => h.mend kn hkc
            have HNo : Hid (∀ d : List UInt8, d.length = (cutL tx)[kn].length + 1 → ¬ mendOk (sH tx) kn d) := Hid.of (fun d hd => mend_long tx kn hkc d hd)
            have HYq : Hid ((cutL tx)[kn]? = some (cutL tx)[kn]) := Hid.of (List.getElem?_eq_getElem hkc)
            generalize (cutL tx)[kn] = y at c0 hyl cm HNo HYq
            have hap : (⟨y.toArray⟩ : ByteArray) ++ ⟨#[120]⟩ = ⟨(y ++ [120]).toArray⟩ := by rw [← ByteArray.mk_append_mk]
            clear hc hrd hxn hra2 hlt he hek hk hk0 hk1 hkc HE HRa HW
            go_wp2_with fail
            refine (H22.out.mendx (kn : Int) (y ++ [120]) (by rw [List.length_append]; simp; omega) (HNo.out _ (by simp))).mono ?_
            rintro e2 w23 ⟨rfl, h23, hk23⟩
            have H23 := Hid.of h23
            have HK23 := Hid.of hk23
            have c1 : w23.cell? ⟨g, off + kn, none⟩ = some (str y) := by
              have hrd : Rd w23 1 (.slice (some ⟨g, off, none⟩) nk zc) nk ((cutL tx).map str) := by
                have := h23.rd
                rw [← HNk.out] at this
                exact this
              obtain ⟨g9, o9, e9, -, hc⟩ := hrd.view (by omega)
              cases e9
              exact hc kn _ (by rw [List.getElem?_map, HYq.out]; rfl)
            clear h23 hk23 c0 hap H22 HNo
            go_wp2_with fail
            refine (cm w23 H23.out).mono ?_
            rintro e3 w24 ⟨rfl, h24, hk24⟩
            have HE24 : Hid (SetE w24 m es clock bads) := Hid.of ⟨hk24 m (by simp) _ (HK23.out m (by simp) _ HE22.out.1), HE22.out.2⟩
            have HR24 : Hid (RngAt w24 r m es clock (seen.push e.born)) := Hid.of (hk24 r (by simp) _ (HK23.out r (by simp) _ HR22.out))
            have H24 := Hid.of (h24.mono (gd' := fun j => j ∉ bads ∨ ∃ e2 ∈ es.toList, e2.key = .int .i64 j ∧ (seen.push e.born).contains e2.born = true) (bd' := fun _ => False) (fun j _ hj => by
              rcases hj with hj | ⟨e2, he2, hk2, hs2⟩
              · exact .inl (.inl hj)
              · rw [contains_push, Bool.or_eq_true] at hs2
                rcases hs2 with hs2 | hs2
                · exact .inl (.inr ⟨e2, he2, hk2, hs2⟩)
                · right
                  have e4 := born_inj HE22.out.2.1.2.1 he2 HEk.out.1 (by simpa using hs2)
                  rw [e4, HEk.out.2] at hk2
                  injection hk2 with _ h5
                  exact h5.symm) (fun j _ hj => hj.elim))
            clear h24 hk24 c1 cm H23 HK23 HE22 HR22 HEk
            go_wp2
            go_roundw
            case rel => exact ⟨_, HE24, HR24, H24⟩
            case measure => rw [HR24.out.seen]; exact HLt.out
end Go.Proofs.Ytlnfigbcdmfmdaa
namespace Go.Proofs.Ytlnfigbcdmfmdaa.chunkHarms
open Go.ChangeShapes Go.WideShapes Go.ChangeAt Go.RowKit
open Go.ChangeMaps (open_string shut_string)
set_option linter.unusedVariables false

set_option maxRecDepth 100000 in
theorem lifted (os : Go.Os) (started : os.Started) (H : Type) (enc : TypeId × Value → H) :
    ReturnsInHanded {} Try.checked os 9 .any (Rows.chunkHarmsSpec.pre6 enc Try.prog Try.f9 Rows.chunkHarmsRow.domain false) (Rows.chunkHarmsSpec.post enc Try.prog Try.f9 false true false false) := by
  refine returnsInHanded_of_change (C := Try.checked) Try.own started (by kernel_rfl) Try.func9
    (ChangeSpec.witness6 (enc := enc) (C := Try.checked) false ⟨#[], #[.int .i64 0, .int .i64 0, .slice none 0 0, .int .u8 0, .int .i64 0], []⟩ 8 (by kernel_rfl) (by kernel_rfl) (by kernel_rfl) (by kernel_rfl)) ?_
  intro W base args ds gs before hval0 hW hcnd _
  have hval : ∀ (j : Nat) t v, Try.f9.params[j]? = some t → args[j]? = some v → Value.okWide Try.prog W .any base t v := hval0
  have hW' := hW
  obtain ⟨p, q, hA0, hV, rfl, hfz, hnd⟩ := hW
  have hA : DataW.TrodAll enc Try.prog W 0 (fun _ => true) true Try.f9.params.toList args.toList ds p := hA0
  rw [Try.params9] at hA hval
  obtain ⟨v0, vs0, d0, ds0, p0, q0, hargs, rfl, rfl, h0, r0⟩ := trodAll_cons hA
  obtain ⟨v1, vs1, d1, ds1, p1, q1, rfl, rfl, rfl, h1, r1⟩ := trodAll_cons r0
  obtain ⟨v2, vs2, d2, ds2, p2, q2, rfl, rfl, rfl, h2, r2⟩ := trodAll_cons r1
  obtain ⟨v3, vs3, d3, ds3, p3, q3, rfl, rfl, rfl, h3, r3⟩ := trodAll_cons r2
  obtain ⟨v4, vs4, d4, ds4, p4, q4, rfl, rfl, rfl, h4, r4⟩ := trodAll_cons r3
  obtain ⟨rfl, rfl, rfl⟩ := trodAll_nil r4
  obtain rfl : args = #[v0, v1, v2, v3, v4] := by cases args; simp_all
  obtain ⟨rfl, rfl⟩ := trodVars_none hV
  have k0 := h0
  have lt0 : ∀ x ∈ p0, x.block < W.heap.size := by obtain ⟨m, hm⟩ := k0; exact DataW.trod_lt m _ _ _ hm
  have k1 := h1
  have lt1 : ∀ x ∈ p1, x.block < W.heap.size := by obtain ⟨m, hm⟩ := k1; exact DataW.trod_lt m _ _ _ hm
  have k2 := h2
  have lt2 : ∀ x ∈ p2, x.block < W.heap.size := by obtain ⟨m, hm⟩ := k2; exact DataW.trod_lt m _ _ _ hm
  have k3 := h3
  have lt3 : ∀ x ∈ p3, x.block < W.heap.size := by obtain ⟨m, hm⟩ := k3; exact DataW.trod_lt m _ _ _ hm
  have k4 := h4
  have lt4 : ∀ x ∈ p4, x.block < W.heap.size := by obtain ⟨m, hm⟩ := k4; exact DataW.trod_lt m _ _ _ hm
  obtain ⟨a0, rfl, rfl, rfl, w0⟩ := open_int Try.underlying3 (hval 0 3 v0 rfl rfl) h0
  obtain ⟨a1, rfl, rfl, rfl, w1⟩ := open_int Try.underlying3 (hval 1 3 v1 rfl rfl) h1
  obtain ⟨a2, len2, cap2, rfl⟩ := okWide_slice Try.underlying51 (hval 2 51 v2 rfl rfl)
  obtain ⟨z2, w2, u2⟩ := rd_ints Try.underlying51 Try.underlying3 (by kernel_rfl) h2
  obtain ⟨a3, rfl, rfl, rfl, w3⟩ := open_int Try.underlying5 (hval 3 5 v3 rfl rfl) h3
  obtain ⟨c3, rfl⟩ := wf_u8 w3
  obtain ⟨a4, rfl, rfl, rfl, w4⟩ := open_int Try.underlying3 (hval 4 3 v4 rfl rfl) h4
  clear hA0 hval0
  refine (harms7_any a0 (wf_i64 w0) a1 (wf_i64 w1) a2 len2 cap2 z2 w2 u2 c3 a4 (wf_i64 w4)).mono fun e W' ⟨he, hx⟩ => ?_
  subst he
  have bel : Below W.heap.size W W' := hx.below (by simp)
  exact ⟨_, rfl, _, _, _, [], _, [], hW', trodAll_mk1 (shut_bool Try.underlying4 _), (trodAll_cons_mk (Below.trod Try.laidOut (by kernel_rfl) (of_decide_eq_true (by kernel_rfl)) k0 bel lt0) (trodAll_cons_mk (Below.trod Try.laidOut (by kernel_rfl) (of_decide_eq_true (by kernel_rfl)) k1 bel lt1) (trodAll_cons_mk (Below.trod Try.laidOut (by kernel_rfl) (of_decide_eq_true (by kernel_rfl)) k2 bel lt2) (trodAll_cons_mk (Below.trod Try.laidOut (by kernel_rfl) (of_decide_eq_true (by kernel_rfl)) k3 bel lt3) (trodAll_cons_mk (Below.trod Try.laidOut (by kernel_rfl) (of_decide_eq_true (by kernel_rfl)) k4 bel lt4) trodAll_mk0))))), rfl, bel.frame _, fun h => by cases h⟩

theorem proved : Rows.ChunkHarmsSaid :=
  OpenClaim.holds_of_wide 9 Try.f9 rfl rfl rfl rfl rfl rfl rfl ⟨rfl, rfl, rfl, rfl, rfl⟩ rfl rfl rfl rfl rfl (by kernel_rfl) Try.func9 (by kernel_rfl)
    (of_decide_eq_true (by kernel_rfl)) (by unfold Func.isWrapper; first | (rw [if_pos (by decide +kernel)]; kernel_rfl) | (rw [if_neg (by decide +kernel)]; exact ⟨rfl, rfl⟩))
    (fun os started H enc _ => lifted os started H enc)
#print axioms proved
end Go.Proofs.Ytlnfigbcdmfmdaa.chunkHarms
