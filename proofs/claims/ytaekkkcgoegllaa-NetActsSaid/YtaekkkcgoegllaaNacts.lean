/- NetActs: the reference as plain lists; acts that came in. -/
import Derived.Test.YtaekkkcgoegllaaNetk
import Derived.Test.YtaekkkcgoegllaaArgs
namespace Go.Proofs.Ytaekkkcgoegllaa
open Go.ChangeShapes Go.WideShapes Go.ChangeAt Go.RowKit Go.Deep
set_option linter.unusedVariables false
set_option linter.unusedSimpArgs false

structure Na where
  k : Int
  delay : Int
def Na.cells (a : Na) : List Value := [.int .i64 a.k, .int .i64 a.delay]
def Na.ok (a : Na) : Prop := (-9223372036854775808 ≤ a.k ∧ a.k ≤ 9223372036854775807) ∧ (-9223372036854775808 ≤ a.delay ∧ a.delay ≤ 9223372036854775807)
theorem nacells_len (a : Na) : a.cells.length = 2 := rfl
section
variable {H : Type} {enc : TypeId × Value → H} {w : World} {spare : Nat → Bool} {held : Bool}
theorem na_of_trod {m : Nat} {cs : List Value} {y : DataW H × List MemPlace} (h : DataW.trod enc Try.prog w 0 spare held m 48 cs = some y) :
    ∃ p : Na, cs = p.cells ∧ p.ok := by
  obtain ⟨xs, n, _, _, hl, hlen, hf⟩ := DataW.trod_struct Try.underlying48 h
  have e2 : Try.prog.cellsOf 48 = 2 := by kernel_rfl
  have ei : Try.prog.cellsOf 3 = 1 := by kernel_rfl
  rw [e2] at hl
  match cs, hl, xs, hlen with
  | [u0, u1], _, [y0, y1], _ =>
    have h0 := hf 0 _ rfl
    have h1 := hf 1 _ rfl
    simp only [ei, List.drop_zero, List.take_succ_cons, List.take_zero, List.drop_succ_cons, List.getElem?_cons_zero, List.getElem?_cons_succ] at h0 h1
    obtain ⟨a, e0, _, w0⟩ := DataW.trod_int Try.underlying3 h0
    obtain ⟨b, e1, _, w1⟩ := DataW.trod_int Try.underlying3 h1
    cases e0; cases e1
    exact ⟨⟨a, b⟩, rfl, wf_i64 w0, wf_i64 w1⟩
theorem rd_nacts {a : Option Addr} {len cap : Nat} {d : DataW H} {ps : List MemPlace}
    (h : DataW.Trod enc Try.prog w 0 spare held 45 (.slice a len cap) d ps) :
    ∃ l : List Na, Rd w 2 (.slice a len cap) len (l.flatMap Na.cells) ∧ ∀ p ∈ l, p.ok := by
  obtain ⟨xs, h1, h2⟩ := rd_of_trod Try.underlying45 (by kernel_rfl : Try.prog.cellsOf 48 = 2) h
  obtain ⟨l, h3, h4, h5⟩ := pieces Na.cells Na.ok 2 len xs h1.1 (fun i hi => by
    obtain ⟨m, y, hy⟩ := h2 i hi
    exact na_of_trod hy)
  exact ⟨l, h4 ▸ h1, h5⟩
end
def naK (a : Na) : Nat := (a.k % 18446744073709551616).toNat % 6
theorem naK_eq (a : Na) : (IntKind.u64.wrap a.k).tmod 6 = (naK a : Int) := by
  unfold naK
  rw [IntKind.wrap_u64, Int.tmod_eq_emod_of_nonneg (Int.emod_nonneg _ (by omega))]
  omega

/-- The reference's row: a letter's time and its message's index. -/
def itm (l : Lt) : List Value := [.int .i64 l.due, .int .i64 l.m.index]
def itms (A : List Lt) : List Value := A.flatMap itm
theorem itms_len (A : List Lt) : (itms A).length = A.length * 2 := flatMap_len itm 2 (fun _ => rfl) A
theorem itms_snoc (A : List Lt) (l : Lt) : itms (A ++ [l]) = itms A ++ itm l := by simp [itms]
def SeqOrd (s : Int) (A : List Lt) : Prop := A.Pairwise (fun x y => x.seq < y.seq) ∧ ∀ y ∈ A, y.seq ≤ s
theorem SeqOrd.nil (s : Int) : SeqOrd s [] := ⟨List.Pairwise.nil, by simp⟩
theorem SeqOrd.snoc {s : Int} {A : List Lt} (h : SeqOrd s A) (d : Int) (m : Ms) : SeqOrd (s + 1) (A ++ [⟨d, s + 1, m⟩]) := by
  refine ⟨List.pairwise_append.2 ⟨h.1, by simp, fun x hx y hy => ?_⟩, fun y hy => ?_⟩
  · simp at hy; subst hy
    have := h.2 x hx
    show x.seq < s + 1
    omega
  · rcases List.mem_append.1 hy with hy | hy
    · have := h.2 y hy; omega
    · simp at hy; subst hy; show s + 1 ≤ s + 1; omega
theorem SeqOrd.erase {s : Int} {A : List Lt} (h : SeqOrd s A) (p : Nat) : SeqOrd s (A.eraseIdx p) :=
  ⟨h.1.sublist (List.eraseIdx_sublist A p), fun y hy => h.2 y (List.mem_of_mem_eraseIdx hy)⟩
def BestAt (now : Int) (A : List Lt) (j : Nat) (β : Int) : Prop :=
  (β = -1 ∧ ∀ q y, q < j → A[q]? = some y → now < y.due) ∨
  ∃ p x, p < j ∧ β = (p : Int) ∧ A[p]? = some x ∧ x.due ≤ now ∧ (∀ q y, q < j → A[q]? = some y → x.due ≤ y.due) ∧ ∀ q y, q < p → A[q]? = some y → x.due < y.due
theorem BestAt.zero (now : Int) (A : List Lt) : BestAt now A 0 (-1) := .inl ⟨rfl, fun q y h => by omega⟩
theorem BestAt.late {now : Int} {A : List Lt} {j : Nat} {β : Int} (h : BestAt now A j β) {x : Lt} (hx : A[j]? = some x) (hl : now < x.due) : BestAt now A (j + 1) β := by
  rcases h with ⟨h1, h2⟩ | ⟨p, x0, h1, h2, h3, h4, h5, h6⟩
  · refine .inl ⟨h1, fun q y hq hy => ?_⟩
    by_cases e : q = j
    · subst e; rw [hx] at hy; cases hy; exact hl
    · exact h2 q y (by omega) hy
  · refine .inr ⟨p, x0, by omega, h2, h3, h4, fun q y hq hy => ?_, h6⟩
    by_cases e : q = j
    · subst e; rw [hx] at hy; cases hy; omega
    · exact h5 q y (by omega) hy
theorem BestAt.first {now : Int} {A : List Lt} {j : Nat} (h : BestAt now A j (-1)) {x : Lt} (hx : A[j]? = some x) (hl : x.due ≤ now) : BestAt now A (j + 1) (j : Int) := by
  rcases h with ⟨h1, h2⟩ | ⟨p, x0, h1, h2, h3, h4, h5, h6⟩
  · refine .inr ⟨j, x, by omega, rfl, hx, hl, fun q y hq hy => ?_, fun q y hq hy => ?_⟩
    · by_cases e : q = j
      · subst e; rw [hx] at hy; cases hy; exact Int.le_refl _
      · have := h2 q y (by omega) hy; omega
    · have := h2 q y (by omega) hy; omega
  · omega
theorem BestAt.less {now : Int} {A : List Lt} {j p : Nat} (h : BestAt now A j (p : Int)) {x z : Lt} (hx : A[j]? = some x) (hz : A[p]? = some z) (hl : x.due < z.due) : BestAt now A (j + 1) (j : Int) := by
  rcases h with ⟨h1, h2⟩ | ⟨p', x0, h1, h2, h3, h4, h5, h6⟩
  · omega
  · obtain rfl : p = p' := by omega
    rw [hz] at h3; cases h3
    refine .inr ⟨j, x, by omega, rfl, hx, by omega, fun q y hq hy => ?_, fun q y hq hy => ?_⟩
    · by_cases e : q = j
      · subst e; rw [hx] at hy; cases hy; exact Int.le_refl _
      · have := h5 q y (by omega) hy; omega
    · have := h5 q y hq hy; omega
theorem BestAt.not {now : Int} {A : List Lt} {j p : Nat} (h : BestAt now A j (p : Int)) {x z : Lt} (hx : A[j]? = some x) (hz : A[p]? = some z) (hl : ¬ x.due < z.due) : BestAt now A (j + 1) (p : Int) := by
  rcases h with ⟨h1, h2⟩ | ⟨p', x0, h1, h2, h3, h4, h5, h6⟩
  · omega
  · obtain rfl : p = p' := by omega
    rw [hz] at h3; cases h3
    refine .inr ⟨p, z, by omega, rfl, hz, h4, fun q y hq hy => ?_, h6⟩
    by_cases e : q = j
    · subst e; rw [hx] at hy; cases hy; omega
    · exact h5 q y (by omega) hy
theorem BestAt.form {now : Int} {A : List Lt} {j : Nat} {β : Int} (h : BestAt now A j β) : β = -1 ∨ ∃ (p : Nat) (z : Lt), p < j ∧ β = (p : Int) ∧ A[p]? = some z := by
  rcases h with ⟨h1, h2⟩ | ⟨p, x0, h1, h2, h3, h4, h5, h6⟩
  · exact .inl h1
  · exact .inr ⟨p, x0, h1, h2, h3⟩
theorem BestAt.none {now : Int} {A : List Lt} (h : BestAt now A A.length (-1)) : ∀ y ∈ A, now < y.due := by
  rcases h with ⟨h1, h2⟩ | ⟨p, x0, h1, h2, h3, h4, h5, h6⟩
  · intro y hy
    obtain ⟨q, hq, rfl⟩ := List.getElem_of_mem hy
    exact h2 q _ hq (List.getElem?_eq_getElem hq)
  · omega
theorem BestAt.due {now : Int} {A : List Lt} {p : Nat} (h : BestAt now A A.length (p : Int)) : ∃ z, A[p]? = some z ∧ z ∈ A ∧ z.due ≤ now := by
  rcases h with ⟨h1, h2⟩ | ⟨p', x0, h1, h2, h3, h4, h5, h6⟩
  · omega
  · obtain rfl : p = p' := by omega
    exact ⟨x0, h3, List.mem_of_getElem? h3, h4⟩
theorem BestAt.next {now s : Int} {A A' : List Lt} {p : Nat} {x z : Lt} (h : BestAt now A A.length (p : Int)) (hs : SeqOrd s A) (hz : A[p]? = some z) (hp : A.Perm (A' ++ [x])) (hm : ∀ y ∈ A, ltL y x = false) : x = z ∧ A'.Perm (A.eraseIdx p) := by
  rcases h with ⟨h1, h2⟩ | ⟨p', x0, h1, h2, h3, h4, h5, h6⟩
  · omega
  · obtain rfl : p = p' := by omega
    rw [hz] at h3; cases h3
    have hx : x = z := by
      have hxA : x ∈ A := hp.mem_iff.2 (by simp)
      obtain ⟨q, hq, hqx⟩ := List.getElem_of_mem hxA
      have h7 := h5 q x hq (by rw [List.getElem?_eq_getElem hq, hqx])
      have h8 := hm z (List.mem_of_getElem? hz)
      have hpl : p < A.length := h1
      have hzp : A[p] = z := by rw [List.getElem?_eq_getElem hpl] at hz; exact Option.some.inj hz
      unfold ltL at h8
      split at h8
      · rename_i hd
        have h9 : x.seq ≤ z.seq := by simpa using h8
        have hmono := List.pairwise_iff_getElem.1 hs.1
        rcases Nat.lt_trichotomy q p with h | h | h
        · have := h6 q x h (by rw [List.getElem?_eq_getElem hq, hqx]); omega
        · subst h; rw [hqx] at hzp; exact hzp
        · have := hmono p q hpl hq h
          rw [hqx, hzp] at this; omega
      · rename_i hd
        have h9 : x.due ≤ z.due := by simpa using h8
        omega
    subst hx
    refine ⟨rfl, ?_⟩
    have hpl : p < A.length := h1
    have e : A.Perm (x :: A.eraseIdx p) := by
      have e1 : A = A.take p ++ x :: A.drop (p + 1) := by
        conv => lhs; rw [← List.take_append_drop p A]
        congr 1
        rw [List.drop_eq_getElem_cons hpl]
        rw [List.getElem?_eq_getElem hpl] at hz
        rw [Option.some.inj hz]
      rw [List.eraseIdx_eq_take_drop_succ]
      conv => lhs; rw [e1]
      exact List.perm_middle
    have h1 : (x :: A.eraseIdx p).Perm (x :: A') := (e.symm.trans hp).trans (List.perm_append_singleton x A')
    exact ((List.perm_cons x).1 h1).symm
theorem itms_erase (A : List Lt) (p : Nat) : itms (A.eraseIdx p) = (itms A).take (p * 2) ++ (itms A).drop ((p + 1) * 2) := by
  rw [List.eraseIdx_eq_take_drop_succ]
  have h1 : ∀ k, (itms A).take (k * 2) = itms (A.take k) := by
    intro k
    by_cases hk : k ≤ A.length
    · conv => lhs; rw [← List.take_append_drop k A]
      unfold itms
      rw [List.flatMap_append, List.take_append_of_le_length (by have := itms_len (A.take k); unfold itms at this; rw [this, List.length_take]; omega), List.take_of_length_le (by have := itms_len (A.take k); unfold itms at this; rw [this, List.length_take]; omega)]
    · rw [List.take_of_length_le (by rw [itms_len]; omega), List.take_of_length_le (by omega)]
  have h2 : ∀ k, (itms A).drop (k * 2) = itms (A.drop k) := by
    intro k
    by_cases hk : k ≤ A.length
    · conv => lhs; rw [← List.take_append_drop k A]
      unfold itms
      rw [List.flatMap_append, List.drop_append_of_le_length (by have := itms_len (A.take k); unfold itms at this; rw [this, List.length_take]; omega), List.drop_of_length_le (by have := itms_len (A.take k); unfold itms at this; rw [this, List.length_take]; omega), List.nil_append]
    · rw [List.drop_of_length_le (by rw [itms_len]; omega), List.drop_of_length_le (by omega)]; rfl
  rw [h1, h2]
  simp [itms]
end Go.Proofs.Ytaekkkcgoegllaa
