/- Package chunk: what a store that holds a snapshot answers; what Open finds. No program in sight. Package chunk: a snapshot put where the power may fail. No program in sight. Package chunk: a snapshot put, said of the store; the law's head. -/
import Derived.Test.YtlnfigbcdmfmdaaChkm
namespace Go.Proofs.Ytlnfigbcdmfmdaa
set_option linter.unusedVariables false
set_option linter.unusedSimpArgs false

/-- A store with a list; its pieces are there. -/
structure Has (V : Int → Sl) (s : Sto) (i t : Int) (d : List UInt8) : Prop where
  area : s.area = 0 ∨ s.area = 1
  list : s.list = ofL i t d
  right : (ofL i t d).right
  whole : ∀ (k : Nat) (hk : k < (cutL d).length), V (s.b s.area (2 + (k : Int))) = (1, chunkRec i k (cutL d)[k])
theorem ofL_sums_len (i t : Int) (d : List UInt8) : (ofL i t d).sums.length = (cutL d).length := by simp [ofL]
theorem ch_out {V : Int → Sl} {s : Sto} {k : Int} (h : s.area < 0 ∨ k < 0 ∨ (s.list.sums.length : Int) ≤ k) : s.chE V k = 7 := if_pos h
/-- A piece that is there. -/
theorem ch_in {V : Int → Sl} {s : Sto} {i t : Int} {d : List UInt8} (ha : s.area = 0 ∨ s.area = 1) (hl : s.list = ofL i t d) (k : Nat) (hk : k < (cutL d).length) (hv : V (s.b s.area (2 + (k : Int))) = (1, chunkRec i k (cutL d)[k])) : s.chE V k = 0 ∧ s.chV V k = (cutL d)[k] := by
  have e : s.chE V k = 0 := by
    unfold Sto.chE
    rw [hl, ofL_sums_len, if_neg (by omega), hv]
    rw [if_neg]
    simp [chunkRec, ofL, List.getD, hk]
  refine ⟨e, ?_⟩
  unfold Sto.chV
  rw [if_pos e, hv]
  rfl
/-- A piece that is not. -/
theorem ch_bad {V : Int → Sl} {s : Sto} {i t : Int} {d : List UInt8} (ha : s.area = 0 ∨ s.area = 1) (hl : s.list = ofL i t d) (k : Nat) (hk : k < (cutL d).length) (hv : (V (s.b s.area (2 + (k : Int)))).1 ≠ 1) : s.chE V k = 6 := by
  unfold Sto.chE
  rw [hl, ofL_sums_len, if_neg (by omega), if_pos (.inl hv)]
theorem hurtN_none {V : Int → Sl} {s : Sto} : ∀ m : Nat, (∀ k : Nat, k < m → s.chE V k ≠ 6) → s.hurtN V m = []
  | 0, _ => rfl
  | m + 1, h => by rw [Sto.hurtN_succ, if_neg (h m (by omega)), hurtN_none m (fun k hk => h k (by omega))]
theorem Has.hurt {V : Int → Sl} {s : Sto} {i t : Int} {d : List UInt8} (h : Has V s i t d) : s.hurt V = [] := by
  unfold Sto.hurt
  refine hurtN_none _ (fun k hk => ?_)
  rw [h.list, ofL_sums_len] at hk
  rw [(ch_in h.area h.list k hk (h.whole k hk)).1]
  decide
theorem Has.dataN {V : Int → Sl} {s : Sto} {i t : Int} {d : List UInt8} (h : Has V s i t d) : ∀ m : Nat, m ≤ (cutL d).length → s.dataN V m = (((cutL d).take m).flatten, 0)
  | 0, _ => rfl
  | m + 1, hm => by
    obtain ⟨e1, e2⟩ := ch_in h.area h.list m (by omega) (h.whole m (by omega))
    have ih := h.dataN m (by omega)
    rw [Sto.dataN_one s V m (by rw [ih]), e1, if_neg (by simp), e2, ih, List.take_add_one, List.getElem?_eq_getElem (by omega), List.flatten_append]
    simp [List.getElem?_eq_getElem (show m < (cutL d).length by omega)]
theorem Has.data {V : Int → Sl} {s : Sto} {i t : Int} {d : List UInt8} (h : Has V s i t d) : s.data V = (d, 0) := by
  have := h.area
  unfold Sto.data
  rw [if_neg (by omega), h.list, ofL_sums_len, h.dataN _ (Nat.le_refl _), List.take_length, cutL_flat]
/-- No list is there. -/
theorem no_hurt {V : Int → Sl} {s : Sto} (h : s.area < 0) : s.hurt V = [] := hurtN_none _ (fun k hk => by rw [ch_out (.inl h)]; decide)
theorem no_data {V : Int → Sl} {s : Sto} (h : s.area < 0) : s.data V = ([], 7) := if_pos h

/-- Open: of the four copies. -/
def cpy (base : Int) (V : Int → Sl) (j : Nat) : Sl := V (base + ((j / 2 : Nat) : Int) * 66 + ((j % 2 : Nat) : Int))
def Under7 (x : Sl) (i : Int) : Prop := x.1 = 1 → lsOk x.2 = true → (lsOf x.2).idx < i
def Top (base : Int) (V : Int → Sl) (a : Int) (l : Ls) : Prop := (∀ j : Nat, j < 4 → ((cpy base V j).lst l ∧ ((j / 2 : Nat) : Int) = a) ∨ Under7 (cpy base V j) l.idx) ∧ ∃ j : Nat, j < 4 ∧ (cpy base V j).lst l
theorem scanS_succ (base : Int) (V : Int → Sl) (j : Nat) : scanS base V (j + 1) = candS ((j / 2 : Nat) : Int) (cpy base V j) (scanS base V j) := rfl
theorem scan_top {base : Int} {V : Int → Sl} {a : Int} {l : Ls} (ha : 0 ≤ a) (h : Top base V a l) : scanS base V 4 = (a, l) := by
  have key : ∀ m : Nat, m ≤ 4 → ((∃ j : Nat, j < m ∧ (cpy base V j).lst l) ∧ scanS base V m = (a, l)) ∨ ((∀ j : Nat, j < m → ¬ (cpy base V j).lst l) ∧ ((scanS base V m).1 < 0 ∨ (scanS base V m).2.idx < l.idx)) := by
    intro m
    induction m with
    | zero => exact fun _ => .inr ⟨fun j hj => by omega, .inl (by show (-1 : Int) < 0; decide)⟩
    | succ m ih =>
      intro hm
      rw [scanS_succ]
      rcases h.1 m (by omega) with ⟨hx, hja⟩ | hu
      · left
        refine ⟨⟨m, by omega, hx⟩, ?_⟩
        rcases ih (by omega) with ⟨_, e⟩ | ⟨_, e⟩
        · rw [e, candS, if_neg]
          rintro ⟨_, _, h3⟩
          rw [hx.2.2] at h3
          simp only at h3
          omega
        · rw [candS, hx.2.2, hja, if_pos ⟨hx.1, hx.2.1, e⟩]
      · rcases ih (by omega) with ⟨⟨j, hj, hl⟩, e⟩ | ⟨hn, e⟩
        · left
          refine ⟨⟨j, by omega, hl⟩, ?_⟩
          rw [e, candS, if_neg]
          rintro ⟨h1, h2, h3⟩
          have := hu h1 h2
          simp only at h3
          omega
        · right
          refine ⟨fun j hj hl => ?_, ?_⟩
          · by_cases e2 : j = m
            · subst e2
              have := hu hl.1 hl.2.1
              rw [hl.2.2] at this
              omega
            · exact hn j (by omega) hl
          · rw [candS]
            split
            · rename_i hc
              exact .inr (hu hc.1 hc.2.1)
            · exact e
  rcases key 4 (by omega) with ⟨_, e⟩ | ⟨hn, _⟩
  · exact e
  · obtain ⟨j, hj, hl⟩ := h.2
    exact absurd hl (hn j hj)
theorem scan_none {base : Int} {V : Int → Sl} (h : ∀ j : Nat, j < 4 → ¬ ((cpy base V j).1 = 1 ∧ lsOk (cpy base V j).2 = true)) : ∀ m : Nat, m ≤ 4 → scanS base V m = (-1, Ls.zero)
  | 0, _ => rfl
  | m + 1, hm => by
    rw [scanS_succ, scan_none h m (by omega), candS, if_neg]
    rintro ⟨h1, h2, _⟩
    exact h m (by omega) ⟨h1, h2⟩
/-- A snapshot: index (0: none), term, text. -/
structure Shot where
  i : Int
  t : Int
  d : List UInt8
/-- The store holds just this snapshot. -/
structure Good (base : Int) (V : Int → Sl) (s : Sto) (x : Shot) : Prop where
  bas : s.base = base
  pos : 0 ≤ x.i
  non : x.i = 0 → s.area = -1 ∧ s.list = Ls.zero ∧ ∀ j : Nat, j < 4 → ¬ ((cpy base V j).1 = 1 ∧ lsOk (cpy base V j).2 = true)
  som : x.i ≠ 0 → Has V s x.i x.t x.d ∧ Top base V s.area (ofL x.i x.t x.d)
theorem Sto.ext3 {s s' : Sto} (h1 : s.base = s'.base) (h2 : s.area = s'.area) (h3 : s.list = s'.list) : s = s' := by cases s; cases s'; simp only at h1 h2 h3; subst h1 h2 h3; rfl
theorem Good.open {base : Int} {V : Int → Sl} {s : Sto} {x : Shot} (h : Good base V s x) : openSt base V = s := by
  by_cases hi : x.i = 0
  · obtain ⟨h1, h2, h3⟩ := h.non hi
    have e := scan_none h3 4 (by omega)
    exact Sto.ext3 h.bas.symm (by rw [h1]; show (scanS base V 4).1 = -1; rw [e]) (by rw [h2]; show (scanS base V 4).2 = _; rw [e])
  · obtain ⟨h1, h2⟩ := h.som hi
    have e := scan_top (by have := h1.area; omega) h2
    exact Sto.ext3 h.bas.symm (by show (scanS base V 4).1 = _; rw [e]) (by rw [h1.list]; show (scanS base V 4).2 = _; rw [e])
theorem Good.new (base : Int) : Good base (fun _ => (0, Rc.zero)) ⟨base, -1, Ls.zero⟩ ⟨0, 0, []⟩ :=
  ⟨rfl, Int.le_refl _, fun _ => ⟨rfl, rfl, fun j hj h => by have := h.1; simp [cpy] at this⟩, fun h => absurd rfl h⟩
/-- No copy is of the index of the snapshot to come. -/
theorem Good.under {base : Int} {V : Int → Sl} {s : Sto} {x : Shot} (h : Good base V s x) {i : Int} (hi : x.i < i) (j : Nat) (hj : j < 4) : Under7 (cpy base V j) i := by
  intro h1 h2
  by_cases h0 : x.i = 0
  · exact absurd ⟨h1, h2⟩ ((h.non h0).2.2 j hj)
  · rcases (h.som h0).2.1 j hj with ⟨hl, _⟩ | hu
    · rw [hl.2.2]; exact hi
    · exact Int.lt_trans (hu h1 h2) hi
/-- Where nothing of what the store holds is touched. -/
theorem Good.keep {base : Int} {V V' : Int → Sl} {s : Sto} {x : Shot} (h : Good base V s x)
    (hc : ∀ j : Nat, j < 4 → cpy base V' j = cpy base V j ∨ ((cpy base V' j).1 ≠ 1 ∧ ((j / 2 : Nat) : Int) ≠ s.area))
    (hw : ∀ k : Nat, k < 64 → V' (s.b s.area (2 + (k : Int))) = V (s.b s.area (2 + (k : Int)))) : Good base V' s x := by
  refine ⟨h.bas, h.pos, fun hi => ?_, fun hi => ?_⟩
  · obtain ⟨h1, h2, h3⟩ := h.non hi
    refine ⟨h1, h2, fun j hj hl => ?_⟩
    rcases hc j hj with e | ⟨e, _⟩
    · rw [e] at hl; exact h3 j hj hl
    · exact e hl.1
  · obtain ⟨h1, h2, j0, hj0, hl0⟩ := h.som hi
    have h64 : (cutL x.d).length ≤ 64 := by have := h1.right.2.2.2.2.2.1; rwa [ofL_sums_len] at this
    refine ⟨⟨h1.area, h1.list, h1.right, fun k hk => by rw [hw k (by omega)]; exact h1.whole k hk⟩, fun j hj => ?_, ?_⟩
    · rcases hc j hj with e | ⟨e, _⟩
      · rw [e]; exact h2 j hj
      · exact .inr (fun h => absurd h e)
    · refine ⟨j0, hj0, ?_⟩
      rcases hc j0 hj0 with e | ⟨_, e⟩
      · rw [e]; exact hl0
      · rcases h2 j0 hj0 with ⟨_, ha⟩ | hu
        · exact absurd ha e
        · have := hu hl0.1 hl0.2.1
          rw [hl0.2.2] at this
          exact absurd this (by omega)
end Go.Proofs.Ytlnfigbcdmfmdaa
namespace Go.Proofs.Ytlnfigbcdmfmdaa
set_option linter.unusedVariables false
set_option linter.unusedSimpArgs false

section
variable {base : Int} {V V' : Int → Sl} {s : Sto} {x : Shot} {i t : Int} {d : List UInt8}
theorem Good.areas (h : Good base V s x) : (s.area = 0 ∧ putA s = 1) ∨ ((s.area = 1 ∨ s.area = -1) ∧ putA s = 0) := by
  have ha : s.area = -1 ∨ s.area = 0 ∨ s.area = 1 := by
    by_cases hi : x.i = 0
    · exact .inl (h.non hi).1
    · exact .inr (h.som hi).1.area
  unfold putA
  rcases ha with e | e | e
  · exact .inr ⟨.inr e, by rw [if_neg (by omega)]⟩
  · exact .inl ⟨e, if_pos e⟩
  · exact .inr ⟨.inl e, by rw [if_neg (by omega)]⟩
theorem cpy_b (hb : s.base = base) (V : Int → Sl) (j : Nat) : cpy base V j = V (s.b ((j / 2 : Nat) : Int) ((j % 2 : Nat) : Int)) := by unfold cpy Sto.b; rw [hb]
theorem Good.made (h : Good base V s x) (hi : x.i < i) (hr : (ofL i t d).right)
    (h1 : ∀ (k : Nat) (hk : k < (cutL d).length), V' (s.b (putA s) (2 + (k : Int))) = (1, chunkRec i k (cutL d)[k]))
    (h2 : ∀ p : Int, p = 0 ∨ p = 1 → V' (s.b (putA s) p) = (1, recL (ofL i t d)) ∨ Under7 (V' (s.b (putA s) p)) i)
    (h3 : ∃ p : Int, (p = 0 ∨ p = 1) ∧ V' (s.b (putA s) p) = (1, recL (ofL i t d)))
    (h4 : ∀ a p : Int, (a = 0 ∨ a = 1) → (p = 0 ∨ p = 1) → a ≠ putA s → V' (s.b a p) = V (s.b a p)) : Good base V' (putS s (ofL i t d)) ⟨i, t, d⟩ := by
  have hA := h.areas
  have hpos := h.pos
  have hA01 : putA s = 0 ∨ putA s = 1 := by omega
  refine ⟨h.bas, by show 0 ≤ i; omega, fun e => by have : i = 0 := e; omega, fun _ => ⟨⟨hA01, rfl, hr, h1⟩, fun j hj => ?_, ?_⟩⟩
  · have hj2 : ((j / 2 : Nat) : Int) = 0 ∨ ((j / 2 : Nat) : Int) = 1 := by omega
    have hm2 : ((j % 2 : Nat) : Int) = 0 ∨ ((j % 2 : Nat) : Int) = 1 := by omega
    rw [cpy_b h.bas V' j]
    by_cases e : ((j / 2 : Nat) : Int) = putA s
    · rw [e]
      rcases h2 _ hm2 with e2 | e2
      · left
        rw [e2]
        exact ⟨Sl.lst_rec hr, rfl⟩
      · exact .inr e2
    · right
      rw [h4 _ _ hj2 hm2 e, ← cpy_b h.bas V j]
      exact h.under hi j hj
  · obtain ⟨p, hp, e⟩ := h3
    have hjj : ∃ j : Nat, j < 4 ∧ ((j / 2 : Nat) : Int) = putA s ∧ ((j % 2 : Nat) : Int) = p := by
      rcases hA01 with e1 | e1 <;> rcases hp with e2 | e2 <;> rw [e1, e2]
      · exact ⟨0, by decide, by decide, by decide⟩
      · exact ⟨1, by decide, by decide, by decide⟩
      · exact ⟨2, by decide, by decide, by decide⟩
      · exact ⟨3, by decide, by decide, by decide⟩
    obtain ⟨j, hj, e1, e2⟩ := hjj
    refine ⟨j, hj, ?_⟩
    rw [cpy_b h.bas V' j, e1, e2, e]
    exact Sl.lst_rec hr
theorem chW_mem {s : Sto} {a i : Int} {d : List UInt8} {c : Int × Rc} (h : c ∈ chW s a i d) : ∃ k : Nat, ∃ hk : k < (cutL d).length, c = (s.b a (2 + (k : Int)), chunkRec i k (cutL d)[k]) := by
  obtain ⟨k, hk, rfl⟩ := List.mem_iff_getElem.1 h
  have hk2 : k < (cutL d).length := by rwa [chW_length] at hk
  exact ⟨k, hk2, chW_get s a i d k hk2⟩
theorem putsW_in (s : Sto) (a i : Int) (d : List UInt8) (V : Int → Sl) (k : Nat) (hk : k < (cutL d).length) : putsV (chW s a i d) V (s.b a (2 + (k : Int))) = (1, chunkRec i k (cutL d)[k]) := by
  have hk2 : k < (chW s a i d).length := by rw [chW_length]; exact hk
  have e := putsV_in (chW s a i d) V k hk2 (fun m hm he => by
    have hm2 : m < (cutL d).length := by rwa [chW_length] at hm
    rw [chW_get s a i d m hm2, chW_get s a i d k hk] at he
    simp only [Sto.b] at he
    omega)
  rw [chW_get s a i d k hk] at e
  exact e
theorem putsW_out (s : Sto) (a i : Int) (d : List UInt8) (V : Int → Sl) (z : Int) (hz : ∀ k : Nat, k < (cutL d).length → z ≠ s.b a (2 + (k : Int))) : putsV (chW s a i d) V z = V z := by
  refine putsV_out _ V z (fun c hc => ?_)
  obtain ⟨k, hk, rfl⟩ := chW_mem hc
  exact fun e => hz k hk e.symm
theorem cut_right (hr : (ofL i t d).right) : (cutL d).length ≤ 64 := by have := hr.2.2.2.2.2.1; rwa [ofL_sums_len] at this
/-- A copy in the area to come is below. -/
theorem Good.underA (h : Good base V s x) (hi : x.i < i) (p : Int) (hp : p = 0 ∨ p = 1) : Under7 (V (s.b (putA s) p)) i := by
  have hA := h.areas
  have hjj : ∃ j : Nat, j < 4 ∧ ((j / 2 : Nat) : Int) = putA s ∧ ((j % 2 : Nat) : Int) = p := by
    rcases (by omega : putA s = 0 ∨ putA s = 1) with e1 | e1 <;> rcases hp with e2 | e2 <;> rw [e1, e2]
    · exact ⟨0, by decide, by decide, by decide⟩
    · exact ⟨1, by decide, by decide, by decide⟩
    · exact ⟨2, by decide, by decide, by decide⟩
    · exact ⟨3, by decide, by decide, by decide⟩
  obtain ⟨j, hj, e1, e2⟩ := hjj
  have := h.under hi j hj
  rwa [cpy_b h.bas V j, e1, e2] at this
theorem under_two {y : Sl} (h : y = (2, Rc.zero)) (i : Int) : Under7 y i := fun h1 => by rw [h] at h1; exact absurd h1 (by decide)
/-- All three batches are whole. -/
theorem Good.put (h : Good base V s x) (hi : x.i < i) (hr : (ofL i t d).right) :
    Good base (putsV [chW s (putA s) i d, [copR s (putA s) (ofL i t d) 0], [copR s (putA s) (ofL i t d) 1]].flatten V) (putS s (ofL i t d)) ⟨i, t, d⟩ := by
  have hA := h.areas
  have h64 := cut_right hr
  have e : [chW s (putA s) i d, [copR s (putA s) (ofL i t d) 0], [copR s (putA s) (ofL i t d) 1]].flatten = (chW s (putA s) i d ++ [copR s (putA s) (ofL i t d) 0]) ++ [copR s (putA s) (ofL i t d) 1] := by simp
  rw [e, putsV_snoc, putsV_snoc]
  have n01 : s.b (putA s) 0 ≠ s.b (putA s) 1 := by unfold Sto.b; omega
  have h0 : ∀ z, z ≠ s.b (putA s) 0 → z ≠ s.b (putA s) 1 → setF (setF (putsV (chW s (putA s) i d) V) (s.b (putA s) 0) (1, recL (ofL i t d))) (s.b (putA s) 1) (1, recL (ofL i t d)) z = putsV (chW s (putA s) i d) V z := fun z h1 h2 => by rw [setF_other _ _ _ _ h2, setF_other _ _ _ _ h1]
  refine h.made hi hr (fun k hk => ?_) (fun p hp => ?_) ⟨1, .inr rfl, setF_same _ _ _⟩ (fun a p ha hp hne => ?_)
  · exact (h0 _ (by unfold Sto.b; omega) (by unfold Sto.b; omega)).trans (putsW_in s (putA s) i d V k hk)
  · left
    rcases hp with rfl | rfl
    · exact (setF_other _ _ _ _ n01).trans (setF_same _ _ _)
    · exact setF_same _ _ _
  · refine (h0 _ (by unfold Sto.b; omega) (by unfold Sto.b; omega)).trans (putsW_out s (putA s) i d V _ (fun k hk => ?_))
    unfold Sto.b
    omega
/-- The power failed in the midst. -/
theorem Good.crash (h : Good base V s x) (hi : x.i < i) (hr : (ofL i t d).right) (j : Nat) (hj : j < [chW s (putA s) i d, [copR s (putA s) (ofL i t d) 0], [copR s (putA s) (ofL i t d) 1]].length)
    (hm : Mix [chW s (putA s) i d, [copR s (putA s) (ofL i t d) 0], [copR s (putA s) (ofL i t d) 1]][j] (putsV ([chW s (putA s) i d, [copR s (putA s) (ofL i t d) 0], [copR s (putA s) (ofL i t d) 1]].take j).flatten V) V') :
    Good base V' s x ∨ Good base V' (putS s (ofL i t d)) ⟨i, t, d⟩ := by
  have hA := h.areas
  have h64 := cut_right hr
  have n01 : s.b (putA s) 0 ≠ s.b (putA s) 1 := by unfold Sto.b; omega
  have hcz : ∀ j : Nat, j < 4 → ∀ k : Nat, k < (cutL d).length → s.b ((j / 2 : Nat) : Int) ((j % 2 : Nat) : Int) ≠ s.b (putA s) (2 + (k : Int)) := by
    intro j hj k hk
    unfold Sto.b
    omega
  match j, hj with
  | 0, _ =>
    left
    have hm0 : Mix (chW s (putA s) i d) V V' := hm
    have hz : ∀ z, (∀ k : Nat, k < (cutL d).length → z ≠ s.b (putA s) (2 + (k : Int))) → V' z = V z := by
      intro z hz
      rcases hm0 z with e | ⟨c, hc, e, _⟩
      · exact e
      · obtain ⟨k, hk, rfl⟩ := chW_mem hc
        exact absurd e.symm (hz k hk)
    refine h.keep (fun j hj => .inl ?_) (fun k hk => ?_)
    · rw [cpy_b h.bas, cpy_b h.bas]
      exact hz _ (hcz j hj)
    · refine hz _ (fun m hm => ?_)
      unfold Sto.b
      omega
  | 1, _ =>
    have hm1 : Mix [copR s (putA s) (ofL i t d) 0] (putsV (chW s (putA s) i d) V) V' := by
      have e : ([chW s (putA s) i d, [copR s (putA s) (ofL i t d) 0], [copR s (putA s) (ofL i t d) 1]].take 1).flatten = chW s (putA s) i d := by simp
      rw [e] at hm
      exact hm
    have hz : ∀ z, z ≠ s.b (putA s) 0 → V' z = putsV (chW s (putA s) i d) V z := by
      intro z hz
      rcases hm1 z with e | ⟨c, hc, e, _⟩
      · exact e
      · obtain rfl : c = copR s (putA s) (ofL i t d) 0 := by simpa using hc
        exact absurd e.symm hz
    have hzo : ∀ z, z ≠ s.b (putA s) 0 → (∀ k : Nat, k < (cutL d).length → z ≠ s.b (putA s) (2 + (k : Int))) → V' z = V z := fun z h1 h2 => (hz z h1).trans (putsW_out s (putA s) i d V z h2)
    have h00 : V' (s.b (putA s) 0) = V (s.b (putA s) 0) ∨ V' (s.b (putA s) 0) = (1, recL (ofL i t d)) ∨ V' (s.b (putA s) 0) = (2, Rc.zero) := by
      rcases hm1 (s.b (putA s) 0) with e | ⟨c, hc, _, e⟩
      · exact .inl (e.trans (putsW_out s (putA s) i d V _ (fun k hk => by unfold Sto.b; omega)))
      · obtain rfl : c = copR s (putA s) (ofL i t d) 0 := by simpa using hc
        exact .inr e
    by_cases hn : V' (s.b (putA s) 0) = (1, recL (ofL i t d))
    · right
      refine h.made hi hr (fun k hk => ?_) (fun p hp => ?_) ⟨0, .inl rfl, hn⟩ (fun a p ha hp hne => ?_)
      · exact (hz _ (by unfold Sto.b; omega)).trans (putsW_in s (putA s) i d V k hk)
      · rcases hp with rfl | rfl
        · exact .inl hn
        · right
          rw [hzo _ n01.symm (fun k hk => by unfold Sto.b; omega)]
          exact h.underA hi 1 (.inr rfl)
      · refine hzo _ (by unfold Sto.b; omega) (fun k hk => ?_)
        unfold Sto.b
        omega
    · left
      refine h.keep (fun j hj => ?_) (fun k hk => ?_)
      · rw [cpy_b h.bas, cpy_b h.bas]
        by_cases e : s.b ((j / 2 : Nat) : Int) ((j % 2 : Nat) : Int) = s.b (putA s) 0
        · rcases h00 with e0 | e0 | e0
          · left; rw [e]; exact e0
          · exact absurd e0 hn
          · right
            rw [e, e0]
            refine ⟨by decide, ?_⟩
            unfold Sto.b at e
            omega
        · exact .inl (hzo _ e (hcz j hj))
      · refine hzo _ (by unfold Sto.b; omega) (fun m hm => ?_)
        unfold Sto.b
        omega
  | 2, _ =>
    right
    have hm2 : Mix [copR s (putA s) (ofL i t d) 1] (setF (putsV (chW s (putA s) i d) V) (s.b (putA s) 0) (1, recL (ofL i t d))) V' := by
      have e : ([chW s (putA s) i d, [copR s (putA s) (ofL i t d) 0], [copR s (putA s) (ofL i t d) 1]].take 2).flatten = chW s (putA s) i d ++ [copR s (putA s) (ofL i t d) 0] := by simp
      rw [e, putsV_snoc] at hm
      exact hm
    have hz : ∀ z, z ≠ s.b (putA s) 1 → V' z = setF (putsV (chW s (putA s) i d) V) (s.b (putA s) 0) (1, recL (ofL i t d)) z := by
      intro z hz
      rcases hm2 z with e | ⟨c, hc, e, _⟩
      · exact e
      · obtain rfl : c = copR s (putA s) (ofL i t d) 1 := by simpa using hc
        exact absurd e.symm hz
    have hn : V' (s.b (putA s) 0) = (1, recL (ofL i t d)) := (hz _ n01).trans (setF_same _ _ _)
    have hzo : ∀ z, z ≠ s.b (putA s) 0 → z ≠ s.b (putA s) 1 → (∀ k : Nat, k < (cutL d).length → z ≠ s.b (putA s) (2 + (k : Int))) → V' z = V z := fun z h1 h2 h3 => ((hz z h2).trans (setF_other _ _ _ _ h1)).trans (putsW_out s (putA s) i d V z h3)
    refine h.made hi hr (fun k hk => ?_) (fun p hp => ?_) ⟨0, .inl rfl, hn⟩ (fun a p ha hp hne => ?_)
    · exact ((hz _ (by unfold Sto.b; omega)).trans (setF_other _ _ _ _ (by unfold Sto.b; omega))).trans (putsW_in s (putA s) i d V k hk)
    · rcases hp with rfl | rfl
      · exact .inl hn
      · rcases hm2 (s.b (putA s) 1) with e | ⟨c, hc, _, e⟩
        · right
          rw [e, setF_other _ _ _ _ n01.symm, putsW_out s (putA s) i d V _ (fun k hk => by unfold Sto.b; omega)]
          exact h.underA hi 1 (.inr rfl)
        · obtain rfl : c = copR s (putA s) (ofL i t d) 1 := by simpa using hc
          rcases e with e | e
          · exact .inl e
          · exact .inr (under_two e i)
    · refine hzo _ (by unfold Sto.b; omega) (by unfold Sto.b; omega) (fun k hk => ?_)
      unfold Sto.b
      omega
end
end Go.Proofs.Ytlnfigbcdmfmdaa
namespace Go.Proofs.Ytlnfigbcdmfmdaa
open Go.RowKit
set_option linter.unusedVariables false
set_option linter.unusedSimpArgs false

section
variable {base : Int} {V V' : Int → Sl} {s : Sto} {x : Shot} {i t : Int} {d : List UInt8} {D : Dv} {n : Int}
theorem Good.areaR (h : Good base V s x) : s.area = -1 ∨ s.area = 0 ∨ s.area = 1 := by have := h.areas; omega
theorem Good.ok (h : Good base V s x) (hi : x.i < i) (hr : (ofL i t d).right) : putOk s (ofL i t d) := by
  refine ⟨hr, fun hh => ?_⟩
  by_cases h0 : x.i = 0
  · have := (h.non h0).1; omega
  · have e := (h.som h0).1.list
    have h2 := hh.2
    rw [e] at h2
    have : i ≤ x.i := h2
    omega
theorem put_lists (h : Good base V s x) (hb : 0 ≤ base) (hn : base + 132 ≤ n) (hr : (ofL i t d).right) :
    ∀ l ∈ [chW s (putA s) i d, [copR s (putA s) (ofL i t d) 0], [copR s (putA s) (ofL i t d) 1]], ∀ c ∈ l, 0 ≤ c.1 ∧ c.1 < n ∧ putE c.2 = 0 := by
  have hA := h.areas
  have hbs := h.bas
  have h64 := cut_right hr
  have hri := (ofL_right i t d).1 hr
  intro l hl c hc
  simp only [List.mem_cons, List.not_mem_nil, or_false] at hl
  rcases hl with rfl | rfl | rfl
  · obtain ⟨k, hk, rfl⟩ := chW_mem hc
    refine ⟨?_, ?_, chunk_put ⟨hri.1, hri.2.1⟩ (by omega) (cutL_piece d k hk).2.2.1⟩ <;> simp only [Sto.b] <;> omega
  · simp only [List.mem_cons, List.not_mem_nil, or_false] at hc
    subst hc
    refine ⟨?_, ?_, recL_put hr⟩ <;> simp only [copR, Sto.b] <;> omega
  · simp only [List.mem_cons, List.not_mem_nil, or_false] at hc
    subst hc
    refine ⟨?_, ?_, recL_put hr⟩ <;> simp only [copR, Sto.b] <;> omega
/-- Put, with power. -/
theorem Good.putF (h : Good base V s x) (hf : Fine0 D n V) (hb : 0 ≤ base) (hn : base + 132 ≤ n) (hi : x.i < i) (hr : (ofL i t d).right) :
    ∃ D' V', putX s i t d D = (0, D', putS s (ofL i t d)) ∧ Fine0 D' n V' ∧ Good base V' (putS s (ofL i t d)) ⟨i, t, d⟩ := by
  have hl := put_lists h hb hn hr
  obtain ⟨e1, e2⟩ := hf.fine.runs _ hl
  have h0 : 0 ≤ n := by omega
  refine ⟨(putR s i t d D).2, _, ?_, ⟨e2, ?_⟩, h.put hi hr⟩
  · unfold putX
    rw [if_pos (h.ok hi hr)]
    have e : (putR s i t d D).1 = 0 := e1
    rw [e, if_pos rfl]
  · rcases runs_crash _ hf.calm0 h0 hl [] with ⟨_, hc⟩ | ⟨hc, _⟩
    · exact hc.lost
    · rw [e1] at hc; exact absurd hc (by decide)
/-- Put where the power may fail. -/
theorem Good.putC (h : Good base V s x) (hf : Calm0 D n V) (hb : 0 ≤ base) (hn : base + 132 ≤ n) (hi : x.i < i) (hr : (ofL i t d).right) (fs : List Int) :
    (∃ D' V', putX s i t d D = (0, D', putS s (ofL i t d)) ∧ Calm0 D' n V' ∧ Good base V' (putS s (ofL i t d)) ⟨i, t, d⟩) ∨
    (∃ D' V', putX s i t d D = (5, D', s) ∧ Fine0 (crashD fs D') n V' ∧ (Good base V' s x ∨ Good base V' (putS s (ofL i t d)) ⟨i, t, d⟩)) := by
  have hl := put_lists h hb hn hr
  have h0 : 0 ≤ n := by omega
  have hok := h.ok hi hr
  rcases runs_crash _ hf h0 hl fs with ⟨e, hc⟩ | ⟨e, j, hj, V2, hc, hm⟩
  · refine .inl ⟨(putR s i t d D).2, _, ?_, hc, h.put hi hr⟩
    unfold putX
    rw [if_pos hok]
    have e : (putR s i t d D).1 = 0 := e
    rw [e, if_pos rfl]
  · refine .inr ⟨(putR s i t d D).2, V2, ?_, hc, h.crash hi hr j hj hm⟩
    unfold putX
    rw [if_pos hok]
    have e : (putR s i t d D).1 = 5 := e
    rw [e, if_neg (by decide)]
theorem text_right {i t : Int} {d : List UInt8} (hi : 1 ≤ i ∧ i ≤ 1099511627776) (ht : 1 ≤ t ∧ t ≤ 1099511627776) (hd : d.length ≤ 25600) : (ofL i t d).right := (ofL_right i t d).2 ⟨hi.1, hi.2, ht.1, ht.2, hd⟩
end
theorem head_hurt {s : Sto} {V V' : Int → Sl} {i t : Int} {d : List UInt8} (h : Has V s i t d) (hd : d.length = 900) (hV : V' = setF V (s.b s.area 3) (2, Rc.zero)) : s.hurt V' = [1] := by
  have hK : (cutL d).length = 3 := by rw [cutL_length, hd]
  have e : ∀ k : Nat, k < 3 → k ≠ 1 → s.chE V' k = 0 := fun k hk h1 => by
    refine (ch_in h.area h.list k (by omega) ?_).1
    rw [hV, setF_other _ _ _ _ (by unfold Sto.b; omega)]
    exact h.whole k (by omega)
  have e1 : s.chE V' (1 : Nat) = 6 := ch_bad h.area h.list 1 (by omega) (by rw [hV]; show (setF V (s.b s.area 3) (2, Rc.zero) (s.b s.area 3)).1 ≠ 1; rw [setF_same]; decide)
  have e0 := e 0 (by omega) (by omega)
  have e2 := e 2 (by omega) (by omega)
  unfold Sto.hurt
  rw [h.list, ofL_sums_len, hK, Sto.hurtN_succ, Sto.hurtN_succ, Sto.hurtN_succ, if_neg (by rw [e2]; decide), if_pos e1, if_neg (by rw [e0]; decide)]
  rfl
set_option maxHeartbeats 6400000 in
theorem head7_any (w : World) : Calls Try.prog 10 #[] w fun e w' => e = .returned (.bool true) ∧ Ext [] w w' := by
  go_enter Try.func10, Try.ntmps10
  go_wp2_with fail
  refine (new_n 200 w _ (Ext.refl _ _)).mono ?_
  rintro e w1 ⟨b, rfl, hd, hx1⟩
  have hf := Fine0.new 200 (by omega) (by omega)
  have HF := Hid.of hf
  have HD := Hid.of hd.o
  clear hd hf
  go_wp2_with fail
  refine (open7_o HD.out HF.out.fine 3 (by omega) (by omega)).mono ?_
  rintro e w2 ⟨q, sv, rfl, hs, hx2, hq⟩
  have hg := Good.new 3
  rw [hg.open] at hs
  have HG := Hid.of hg
  have HS := Hid.of hs
  have HX2 := Hid.of (hx1.then0 hx2)
  clear hs hg hx1 hx2 HD hq
  go_wp2_with fail
  refine (text7_any 900 1 w2 (by omega)).mono ?_
  rintro e w3 ⟨tx, rfl, htl, hx3⟩
  have htl2 : tx.length = 900 := by omega
  have HS3 := Hid.of (HS.out.keep hx3)
  have HX3 := Hid.of (HX2.out.then0 hx3)
  obtain ⟨D', V', hX, hf', hg'⟩ := HG.out.putF HF.out (by omega) (by omega) (show (0 : Int) < 1 by omega) (text_right (i := 1) (t := 1) (d := tx) (by omega) (by omega) (by omega))
  have cp := HS3.out.put7 1 1 tx (by omega) (by simp [newD])
  rw [hX] at cp
  have HF' := Hid.of hf'
  have HG' := Hid.of hg'
  have HTL := Hid.of htl2
  clear hX hf' hg' hx3 HS HX2 HF HG htl htl2
  unfold PutTo at cp
  simp only at cp
  go_wp2_with fail
  refine cp.mono ?_
  rintro e w4 ⟨sv', rfl, hs4, hk4⟩
  have HS4 := Hid.of hs4
  clear cp hs4 hk4 HS3 HX3
  go_wp2_with fail
  refine (lose_o b _ 6 w w4 _ HS4.out.dev).mono ?_
  rintro e w5 ⟨rfl, hd5, hk5⟩
  have HS5 := Hid.of (HS4.out.devt hd5 hk5).1
  have HF5 : Hid (Fine (loseD 6 D') 200 (setF V' 6 (2, Rc.zero)) 0) := Hid.of (HF'.out.fine.lose (by omega) (by omega))
  have HH : Hid ((putS ⟨3, -1, Ls.zero⟩ (ofL 1 1 tx)).hurt (setF V' 6 (2, Rc.zero)) = [1]) := Hid.of (head_hurt (HG'.out.som (show (1 : Int) ≠ 0 by decide)).1 HTL.out rfl)
  have ch := HS5.out.hurt7 HF5.out
  rw [HH.out] at ch
  have HX5 := Hid.of HS5.out.dev.ext
  clear HS4 HF' HG' HTL HH hd5 hk5 HS5 HF5
  go_wp2_with fail
  refine ch.mono ?_
  rintro e w6 ⟨v, rfl, ho6, hx6, hv6⟩
  obtain ⟨a, cap, rfl⟩ := Rd.isSlice ho6.rd
  obtain ⟨g, off, rfl, hg, hc⟩ := Rd.view ho6.rd (by decide)
  have c0 : w6.cell? ⟨g, off, none⟩ = some (.int .i64 1) := hc 0 _ rfl
  have HX6 := Hid.of (HX5.out.then0 hx6)
  clear ch hx6 hv6 ho6 hg hc HX5
  go_wp2
  go_ret
  exact ⟨rfl, HX6.out⟩
end Go.Proofs.Ytlnfigbcdmfmdaa
