/- Recs written one after the other, made safe: on any device, and on one in working order. No program in sight. -/
import Derived.Test.YtmjgbkepngeckaaFine
namespace Go.Proofs.Ytmjgbkepngeckaa
set_option linter.unusedVariables false
set_option linter.unusedSimpArgs false

def wrs : List (Int × Rc) → Dv → Int × Dv
  | [], D => (0, D)
  | c :: l, D => if swE c.1 c.2 D = 0 then wrs l (swD c.1 c.2 D) else (swE c.1 c.2 D, swD c.1 c.2 D)
/-- Behind them all: Flush. -/
def wrf (l : List (Int × Rc)) (D : Dv) : Int × Dv := if (wrs l D).1 = 0 then (turnE (wrs l D).2, flushD (wrs l D).2) else wrs l D
theorem wrs_snoc : ∀ (l : List (Int × Rc)) (c : Int × Rc) (D : Dv), wrs (l ++ [c]) D = if (wrs l D).1 = 0 then (swE c.1 c.2 (wrs l D).2, swD c.1 c.2 (wrs l D).2) else wrs l D
  | [], c, D => by
    show (if swE c.1 c.2 D = 0 then (0, swD c.1 c.2 D) else (swE c.1 c.2 D, swD c.1 c.2 D)) = if (0 : Int) = 0 then (swE c.1 c.2 D, swD c.1 c.2 D) else _
    rw [if_pos rfl]
    split
    · rename_i h; rw [h]
    · rfl
  | x :: l, c, D => by
    by_cases h : swE x.1 x.2 D = 0
    · rw [List.cons_append, wrs, wrs, if_pos h, if_pos h]
      exact wrs_snoc l c _
    · rw [List.cons_append, wrs, wrs, if_neg h, if_neg h, if_neg h]
theorem wrs_stop : ∀ (l m : List (Int × Rc)) (D : Dv), (wrs l D).1 ≠ 0 → wrs (l ++ m) D = wrs l D
  | [], m, D, h => absurd rfl h
  | x :: l, m, D, h => by
    by_cases h0 : swE x.1 x.2 D = 0
    · rw [wrs, if_pos h0] at h
      rw [List.cons_append, wrs, wrs, if_pos h0, if_pos h0]
      exact wrs_stop l m _ h
    · rw [List.cons_append, wrs, wrs, if_neg h0, if_neg h0]
theorem wrs_app : ∀ (l m : List (Int × Rc)) (D : Dv), (wrs l D).1 = 0 → wrs (l ++ m) D = wrs m (wrs l D).2
  | [], m, D, h => rfl
  | x :: l, m, D, h => by
    by_cases h0 : swE x.1 x.2 D = 0
    · rw [wrs, if_pos h0] at h
      rw [List.cons_append, wrs, wrs, if_pos h0, if_pos h0]
      exact wrs_app l m _ h
    · rw [wrs, if_neg h0] at h
      exact absurd h h0
theorem wrs_next {l : List (Int × Rc)} {D : Dv} {j : Nat} (hj : j < l.length) (h0 : (wrs (l.take j) D).1 = 0) :
    wrs (l.take (j + 1)) D = (swE l[j].1 l[j].2 (wrs (l.take j) D).2, swD l[j].1 l[j].2 (wrs (l.take j) D).2) := by
  rw [List.take_add_one, List.getElem?_eq_getElem hj]
  show wrs (l.take j ++ [l[j]]) D = _
  rw [wrs_snoc, if_pos h0]
theorem wrf_fail {l : List (Int × Rc)} {D : Dv} {j : Nat} (h : (wrs (l.take j) D).1 ≠ 0) : wrf l D = wrs (l.take j) D := by
  have e : wrs l D = wrs (l.take j) D := by
    conv => lhs; rw [← List.take_append_drop j l]
    exact wrs_stop _ _ _ h
  unfold wrf
  rw [e, if_neg h]
theorem wrf_end {l : List (Int × Rc)} {D : Dv} (h : (wrs l D).1 = 0) : wrf l D = (turnE (wrs l D).2, flushD (wrs l D).2) := if_pos h
theorem wrs_since : ∀ (l : List (Int × Rc)) (D : Dv), (wrs l D).2.since.length ≤ D.since.length + l.length
  | [], D => Nat.le_refl _
  | x :: l, D => by
    rw [wrs]
    have := swD_since x.1 x.2 D
    split
    · have h2 := wrs_since l (swD x.1 x.2 D)
      simp only [List.length_cons]
      omega
    · simp only [List.length_cons]
      omega
theorem wrs_ok : ∀ (l : List (Int × Rc)) {D : Dv}, DvOk D → DvOk (wrs l D).2
  | [], D, h => h
  | x :: l, D, h => by
    rw [wrs]
    split
    · exact wrs_ok l (h.slot _ _)
    · exact h.slot _ _
theorem wrf_ok (l : List (Int × Rc)) {D : Dv} (h : DvOk D) : DvOk (wrf l D).2 := by
  unfold wrf
  split
  · exact (wrs_ok l h).flush
  · exact wrs_ok l h
theorem wrf_since (l : List (Int × Rc)) (D : Dv) : (wrf l D).2.since.length ≤ D.since.length + l.length := by
  have h := wrs_since l D
  unfold wrf
  split
  · have := flushD_since (wrs l D).2
    exact Nat.le_trans this h
  · exact h
/-- The slots behind it. -/
def putsV (l : List (Int × Rc)) (V : Int → Sl) : Int → Sl := l.foldl (fun V c => setF V c.1 (1, c.2)) V
theorem putsV_snoc (l : List (Int × Rc)) (c : Int × Rc) (V : Int → Sl) : putsV (l ++ [c]) V = setF (putsV l V) c.1 (1, c.2) := by simp [putsV]
theorem putsV_out : ∀ (l : List (Int × Rc)) (V : Int → Sl) (k : Int), (∀ c ∈ l, c.1 ≠ k) → putsV l V k = V k
  | [], V, k, h => rfl
  | c :: l, V, k, h => by
    show putsV l (setF V c.1 (1, c.2)) k = _
    rw [putsV_out l _ k (fun x hx => h x (by simp [hx])), setF_other _ _ _ _ (fun e => h c (by simp) e.symm)]
theorem putsV_in : ∀ (l : List (Int × Rc)) (V : Int → Sl) (j : Nat) (hj : j < l.length), (∀ i (hi : i < l.length), l[i].1 = l[j].1 → i = j) → putsV l V l[j].1 = (1, l[j].2)
  | [], V, j, hj, h => by cases hj
  | c :: l, V, 0, hj, h => by
    show putsV l (setF V c.1 (1, c.2)) c.1 = (1, c.2)
    rw [putsV_out l _ _ (fun x hx => ?_), setF_same]
    intro e
    obtain ⟨i, hi, rfl⟩ := List.mem_iff_getElem.1 hx
    have := h (i + 1) (by simpa using hi) (by simpa using e)
    omega
  | c :: l, V, j + 1, hj, h => by
    have hj' : j < l.length := by simpa using hj
    show putsV l (setF V c.1 (1, c.2)) l[j].1 = (1, l[j].2)
    exact putsV_in l _ j hj' (fun i hi e => by
      have := h (i + 1) (by simpa using hi) (by simpa using e)
      omega)
theorem Fine.wrs : ∀ (l : List (Int × Rc)) {D : Dv} {n : Int} {V : Int → Sl} {s : Nat}, Fine D n V s → (∀ c ∈ l, 0 ≤ c.1 ∧ c.1 < n ∧ putE c.2 = 0) → (Go.Proofs.Ytmjgbkepngeckaa.wrs l D).1 = 0 ∧ Fine (Go.Proofs.Ytmjgbkepngeckaa.wrs l D).2 n (putsV l V) (s + l.length)
  | [], D, n, V, s, h, hl => ⟨rfl, h⟩
  | c :: l, D, n, V, s, h, hl => by
    obtain ⟨h1, h2, h3⟩ := hl c (by simp)
    obtain ⟨g1, g2⟩ := h.write h1 h2 h3
    rw [Go.Proofs.Ytmjgbkepngeckaa.wrs, if_pos g1]
    obtain ⟨r1, r2⟩ := Fine.wrs l g2 (fun x hx => hl x (by simp [hx]))
    refine ⟨r1, ?_⟩
    have e : s + (c :: l).length = s + 1 + l.length := by simp only [List.length_cons]; omega
    rw [e]
    exact r2
theorem Fine.wrf {l : List (Int × Rc)} {D : Dv} {n : Int} {V : Int → Sl} {s : Nat} (h : Fine D n V s) (hl : ∀ c ∈ l, 0 ≤ c.1 ∧ c.1 < n ∧ putE c.2 = 0) : (Go.Proofs.Ytmjgbkepngeckaa.wrf l D).1 = 0 ∧ Fine (Go.Proofs.Ytmjgbkepngeckaa.wrf l D).2 n (putsV l V) 0 := by
  obtain ⟨r1, r2⟩ := Fine.wrs l h hl
  unfold Go.Proofs.Ytmjgbkepngeckaa.wrf
  rw [if_pos r1]
  exact ⟨r2.turnE, r2.flush⟩
end Go.Proofs.Ytmjgbkepngeckaa
