/- A binary heap of letters, as plain functions: up, down; what is at the root is due first. No program is named here. -/
namespace Go.Proofs.Ytaekkkcgoegllaa
set_option linter.unusedVariables false
set_option linter.unusedSimpArgs false

section
variable {α : Type} (lt : α → α → Bool)
/-- Two places change what they hold. -/
def swp (L : List α) (i j : Nat) : List α := match L[i]?, L[j]? with
  | some a, some b => (L.set i b).set j a
  | _, _ => L
theorem swp_eq (L : List α) (i j : Nat) (hi : i < L.length) (hj : j < L.length) : swp L i j = (L.set i L[j]).set j L[i] := by
  unfold swp; rw [List.getElem?_eq_getElem hi, List.getElem?_eq_getElem hj]
theorem swp_length (L : List α) (i j : Nat) : (swp L i j).length = L.length := by
  unfold swp; split <;> simp
theorem swp_get (L : List α) (i j k : Nat) (hi : i < L.length) (hj : j < L.length) (hk : k < L.length) : (swp L i j)[k]? = if k = j then L[i]? else if k = i then L[j]? else L[k]? := by
  rw [swp_eq L i j hi hj, List.getElem?_set]
  by_cases h1 : j = k
  · subst h1; simp [hk, List.getElem?_eq_getElem hi]
  · rw [if_neg h1, if_neg (by omega), List.getElem?_set]
    by_cases h2 : i = k
    · subst h2; simp [hk, List.getElem?_eq_getElem hj]
    · rw [if_neg h2, if_neg (by omega)]
theorem swp_self (L : List α) (i : Nat) : swp L i i = L := by
  unfold swp
  split
  · rename_i a b h1 h2
    rw [h1] at h2; cases h2
    rw [List.set_set]
    exact List.ext_getElem? fun k => by
      rw [List.getElem?_set]
      split
      · rename_i e; subst e
        obtain ⟨hl, rfl⟩ := List.getElem?_eq_some_iff.1 h1
        simp [hl]
      · rfl
  · rfl
theorem perm_set_set (L : List α) (i j : Nat) (hi : i < L.length) (hj : j < L.length) (hij : i < j) : ((L.set i L[j]).set j L[i]).Perm L := by
  have e : L = L.take i ++ L[i] :: ((L.drop (i + 1)).take (j - i - 1) ++ L[j] :: L.drop (j + 1)) := by
    conv => lhs; rw [← List.take_append_drop i L]
    congr 1
    rw [List.drop_eq_getElem_cons hi]
    congr 1
    conv => lhs; rw [← List.take_append_drop (j - i - 1) (L.drop (i + 1))]
    congr 1
    rw [List.drop_drop, show i + 1 + (j - i - 1) = j by omega, List.drop_eq_getElem_cons hj]
  generalize hA : L.take i = A at e
  generalize hB : (L.drop (i + 1)).take (j - i - 1) = B at e
  generalize hC : L.drop (j + 1) = C at e
  generalize hx : L[i] = x at e
  generalize hy : L[j] = y at e
  have lA : A.length = i := by rw [← hA]; simp; omega
  have lB : B.length = j - i - 1 := by rw [← hB]; simp; omega
  rw [e]
  have e2 : ((A ++ x :: (B ++ y :: C)).set i y).set j x = A ++ y :: (B ++ x :: C) := by
    rw [List.set_append_right _ _ (by omega), show i - A.length = 0 by omega, List.set_cons_zero, List.set_append_right _ _ (by omega), show j - A.length = (j - i - 1) + 1 by omega, List.set_cons_succ, List.set_append_right _ _ (by omega), show j - i - 1 - B.length = 0 by omega, List.set_cons_zero]
  rw [e2]
  apply List.Perm.append_left
  refine List.Perm.trans ?_ (List.Perm.trans (List.Perm.swap x y (B ++ C)) ?_)
  · exact List.Perm.cons y List.perm_middle
  · exact List.Perm.trans (List.Perm.refl _) (List.Perm.cons x (List.Perm.symm List.perm_middle))
theorem swp_perm (L : List α) (i j : Nat) : (swp L i j).Perm L := by
  by_cases hi : i < L.length
  · by_cases hj : j < L.length
    · rcases Nat.lt_trichotomy i j with h | h | h
      · rw [swp_eq L i j hi hj]; exact perm_set_set L i j hi hj h
      · subst h; rw [swp_self]
      · rw [swp_eq L i j hi hj, List.set_comm _ _ (by omega)]; exact perm_set_set L j i hj hi h
    · unfold swp; rw [List.getElem?_eq_none (l := L) (i := j) (by omega)]; split <;> simp_all
  · unfold swp; rw [List.getElem?_eq_none (l := L) (i := i) (by omega)]

/-- May a be ahead of b? (both there) -/
def le? (L : List α) (i j : Nat) : Prop := ∀ a b, L[i]? = some a → L[j]? = some b → lt b a = false
structure Ord : Prop where
  irr : ∀ a, lt a a = false
  tr : ∀ a b c, lt a b = false → lt b c = false → lt a c = false
  asym : ∀ a b, lt a b = true → lt b a = false

/-- up: from place j. -/
def upL : Nat → List α → List α
  | 0, L => L
  | j + 1, L => match L[j + 1]?, L[j / 2]? with
    | some a, some b => if lt a b then upL (j / 2) (swp L (j / 2) (j + 1)) else L
    | _, _ => L
termination_by j => j
decreasing_by omega

theorem upL_length : ∀ (j : Nat) (L : List α), (upL lt j L).length = L.length := by
  intro j
  induction j using Nat.strongRecOn with
  | ind j ih =>
    intro L
    cases j with
    | zero => rw [upL]
    | succ j =>
      rw [upL]
      split
      · split
        · rw [ih (j / 2) (by omega), swp_length]
        · rfl
      · rfl
theorem upL_perm : ∀ (j : Nat) (L : List α), (upL lt j L).Perm L := by
  intro j
  induction j using Nat.strongRecOn with
  | ind j ih =>
    intro L
    cases j with
    | zero => rw [upL]
    | succ j =>
      rw [upL]
      split
      · split
        · exact (ih (j / 2) (by omega) _).trans (swp_perm _ _ _)
        · exact List.Perm.refl _
      · exact List.Perm.refl _

/-- A heap: no one is due ahead of the one above it. -/
def Heap (L : List α) : Prop := ∀ k, 0 < k → k < L.length → le? lt L ((k - 1) / 2) k
/-- A heap but for place j and the one above it. -/
def HeapUp (j : Nat) (L : List α) : Prop := (∀ k, 0 < k → k < L.length → k ≠ j → le? lt L ((k - 1) / 2) k) ∧ ∀ k, 0 < k → k < L.length → (k - 1) / 2 = j → 0 < j → le? lt L ((j - 1) / 2) k
theorem upL_heap (ho : Ord lt) : ∀ (j : Nat) (L : List α), j < L.length → HeapUp lt j L → Heap lt (upL lt j L) := by
  intro j
  induction j using Nat.strongRecOn with
  | ind j ih =>
    intro L hj h
    cases j with
    | zero =>
      rw [upL]
      exact fun k h0 hk => h.1 k h0 hk (by omega)
    | succ j =>
      obtain ⟨a, ha⟩ : ∃ a, L[j + 1]? = some a := ⟨_, List.getElem?_eq_getElem hj⟩
      have hp : j / 2 < L.length := by omega
      obtain ⟨b, hb⟩ : ∃ b, L[j / 2]? = some b := ⟨_, List.getElem?_eq_getElem hp⟩
      rw [upL, ha, hb]
      simp only
      split
      · rename_i hlt
        refine ih (j / 2) (by omega) _ (by rw [swp_length]; exact hp) ⟨?_, ?_⟩
        · intro k h0 hk hkj
          rw [swp_length] at hk
          have hpk : (k - 1) / 2 < L.length := by omega
          intro x y hx hy
          rw [swp_get L _ _ _ hp hj hpk] at hx
          rw [swp_get L _ _ _ hp hj hk] at hy
          by_cases e1 : k = j + 1
          · subst e1
            have e : (j + 1 - 1) / 2 = j / 2 := by simp
            rw [e, if_neg (by omega), if_pos rfl, ha] at hx
            rw [if_pos rfl, hb] at hy
            cases hx; cases hy
            exact ho.asym _ _ hlt
          · rw [if_neg e1, if_neg hkj] at hy
            by_cases e2 : (k - 1) / 2 = j + 1
            · rw [if_pos e2, hb] at hx
              cases hx
              have := h.2 k h0 hk e2 (by omega)
              rw [show (j + 1 - 1) / 2 = j / 2 by simp] at this
              exact this _ _ hb hy
            · rw [if_neg e2] at hx
              by_cases e3 : (k - 1) / 2 = j / 2
              · rw [if_pos e3, ha] at hx
                cases hx
                have h1 := h.1 k h0 hk e1
                rw [e3] at h1
                have h2 : lt y b = false := h1 _ _ hb hy
                exact ho.tr _ _ _ h2 (ho.asym _ _ hlt)
              · rw [if_neg e3] at hx
                exact h.1 k h0 hk e1 _ _ hx hy
        · intro k h0 hk hpar hj0
          rw [swp_length] at hk
          have hgp : (j / 2 - 1) / 2 < L.length := by omega
          intro x y hx hy
          rw [swp_get L _ _ _ hp hj hgp, if_neg (by omega), if_neg (by omega)] at hx
          rw [swp_get L _ _ _ hp hj hk] at hy
          have h1 : lt b x = false := h.1 (j / 2) hj0 hp (by omega) _ _ hx hb
          by_cases e1 : k = j + 1
          · rw [if_pos e1, hb] at hy
            cases hy
            exact h1
          · rw [if_neg e1, if_neg (by omega)] at hy
            have h2 := h.1 k h0 hk e1
            rw [hpar] at h2
            exact ho.tr _ _ _ (h2 _ _ hb hy) h1
      · rename_i hlt
        intro k h0 hk
        by_cases e1 : k = j + 1
        · subst e1
          intro x y hx hy
          rw [show (j + 1 - 1) / 2 = j / 2 by simp, hb] at hx
          rw [ha] at hy
          cases hx; cases hy
          simpa using hlt
        · exact h.1 k h0 hk e1

/-- The lesser child of i among the first n. -/
def childL (n i : Nat) (L : List α) : Nat := if 2 * i + 2 < n then (match L[2 * i + 2]?, L[2 * i + 1]? with
  | some a, some b => if lt a b then 2 * i + 2 else 2 * i + 1
  | _, _ => 2 * i + 1) else 2 * i + 1
theorem childL_or (n i : Nat) (L : List α) : childL lt n i L = 2 * i + 1 ∨ (childL lt n i L = 2 * i + 2 ∧ 2 * i + 2 < n) := by
  unfold childL
  split
  · split
    · split
      · exact .inr ⟨rfl, by assumption⟩
      · exact .inl rfl
    · exact .inl rfl
  · exact .inl rfl
/-- down: from place i, among the first n. -/
def downL (n : Nat) (i : Nat) (L : List α) : List α :=
  if h : 2 * i + 1 < n then (match L[childL lt n i L]?, L[i]? with
    | some a, some b => if lt a b then downL n (childL lt n i L) (swp L i (childL lt n i L)) else L
    | _, _ => L) else L
termination_by n - i
decreasing_by rcases childL_or lt n i L with h1 | h1 <;> omega
theorem downL_all (n : Nat) : ∀ (m i : Nat) (L : List α), n - i ≤ m → (downL lt n i L).length = L.length ∧ (downL lt n i L).Perm L ∧ ∀ k, n ≤ k → n ≤ L.length → (downL lt n i L)[k]? = L[k]? := by
  intro m
  induction m with
  | zero =>
    intro i L hm
    rw [downL, dif_neg (by omega)]
    exact ⟨rfl, List.Perm.refl _, fun _ _ _ => rfl⟩
  | succ m ih =>
    intro i L hm
    rw [downL]
    split
    · rename_i h1
      obtain ⟨c, hc⟩ : ∃ c, c = childL lt n i L := ⟨_, rfl⟩
      have hcc := childL_or lt n i L
      rw [← hc] at hcc ⊢
      split
      · split
        · obtain ⟨a1, a2, a3⟩ := ih c (swp L i c) (by omega)
          refine ⟨a1.trans (swp_length _ _ _), a2.trans (swp_perm _ _ _), fun k hk hn => ?_⟩
          rw [a3 k hk (by rw [swp_length]; exact hn)]
          by_cases hkl : k < L.length
          · rw [swp_get L i c k (by omega) (by omega) hkl, if_neg (by omega), if_neg (by omega)]
          · rw [List.getElem?_eq_none (by rw [swp_length]; omega), List.getElem?_eq_none (by omega)]
        · exact ⟨rfl, List.Perm.refl _, fun _ _ _ => rfl⟩
      · exact ⟨rfl, List.Perm.refl _, fun _ _ _ => rfl⟩
    · exact ⟨rfl, List.Perm.refl _, fun _ _ _ => rfl⟩
/-- A heap among the first n but for place i and those below it. -/
def HeapDown (n i : Nat) (L : List α) : Prop := (∀ k, 0 < k → k < n → (k - 1) / 2 ≠ i → le? lt L ((k - 1) / 2) k) ∧ ∀ k, 0 < k → k < n → (k - 1) / 2 = i → 0 < i → le? lt L ((i - 1) / 2) k
def HeapN (n : Nat) (L : List α) : Prop := ∀ k, 0 < k → k < n → le? lt L ((k - 1) / 2) k
theorem downL_heap (ho : Ord lt) (n : Nat) : ∀ (m i : Nat) (L : List α), n - i ≤ m → n ≤ L.length → HeapDown lt n i L → HeapN lt n (downL lt n i L) := by
  intro m
  induction m with
  | zero =>
    intro i L hm hn h
    rw [downL, dif_neg (by omega)]
    exact fun k h0 hk => h.1 k h0 hk (by omega)
  | succ m ih =>
    intro i L hm hn h
    rw [downL]
    split
    · rename_i h1
      have hcc := childL_or lt n i L
      obtain ⟨c, hc⟩ : ∃ c, c = childL lt n i L := ⟨_, rfl⟩
      have hbest : ∀ k, 0 < k → k < n → (k - 1) / 2 = i → le? lt L c k := by
        intro k h0 hk hp x y hx hy
        have hk2 : k = 2 * i + 1 ∨ k = 2 * i + 2 := by omega
        obtain ⟨p, hp1⟩ : ∃ p, L[2 * i + 1]? = some p := ⟨_, List.getElem?_eq_getElem (by omega)⟩
        rw [hc] at hx
        unfold childL at hx
        rcases hk2 with e | e
        · rw [e, hp1] at hy
          cases hy
          split at hx
          · rename_i h2
            obtain ⟨q, hq⟩ : ∃ q, L[2 * i + 2]? = some q := ⟨_, List.getElem?_eq_getElem (by omega)⟩
            rw [hq, hp1] at hx
            simp only at hx
            split at hx
            · rename_i hl
              rw [hq] at hx; cases hx
              exact ho.asym _ _ hl
            · rw [hp1] at hx; cases hx
              exact ho.irr _
          · rw [hp1] at hx; cases hx
            exact ho.irr _
        · rw [e] at hy
          rw [if_pos (by omega), hy, hp1] at hx
          simp only at hx
          split at hx
          · rw [hy] at hx; cases hx
            exact ho.irr _
          · rename_i hl
            rw [hp1] at hx; cases hx
            simpa using hl
      rw [← hc] at hcc ⊢
      have hcl : c < L.length := by omega
      have hil : i < L.length := by omega
      obtain ⟨a, ha⟩ : ∃ a, L[c]? = some a := ⟨_, List.getElem?_eq_getElem hcl⟩
      obtain ⟨b, hb⟩ : ∃ b, L[i]? = some b := ⟨_, List.getElem?_eq_getElem hil⟩
      rw [ha, hb]
      simp only
      have hcp : (c - 1) / 2 = i := by omega
      split
      · rename_i hlt
        refine ih c _ (by omega) (by rw [swp_length]; exact hn) ⟨?_, ?_⟩
        · intro k h0 hk hne x y hx hy
          have hkl : k < L.length := by omega
          rw [swp_get L _ _ _ hil hcl (by omega)] at hx
          rw [swp_get L _ _ _ hil hcl hkl] at hy
          by_cases e1 : (k - 1) / 2 = i
          · rw [if_neg (by omega), if_pos e1, ha] at hx
            cases hx
            by_cases e2 : k = c
            · rw [if_pos e2, hb] at hy
              cases hy
              exact ho.asym _ _ hlt
            · rw [if_neg e2, if_neg (by omega)] at hy
              exact hbest k h0 hk e1 _ _ ha hy
          · rw [if_neg hne, if_neg e1] at hx
            by_cases e2 : k = i
            · rw [if_neg (by omega), if_pos e2, ha] at hy
              cases hy
              have := h.2 c (by omega) (by omega) hcp (by omega)
              rw [e2] at hx
              exact this _ _ hx ha
            · have hkc : k ≠ c := fun e => e1 (by rw [e]; exact hcp)
              rw [if_neg hkc, if_neg e2] at hy
              exact h.1 k h0 hk e1 _ _ hx hy
        · intro k h0 hk hp h0c x y hx hy
          rw [hcp, swp_get L _ _ _ hil hcl hil, if_neg (by omega), if_pos rfl, ha] at hx
          cases hx
          rw [swp_get L _ _ _ hil hcl (by omega), if_neg (by omega), if_neg (by omega)] at hy
          have := h.1 k h0 hk (by omega)
          rw [hp] at this
          exact this _ _ ha hy
      · rename_i hlt
        intro k h0 hk
        by_cases e1 : (k - 1) / 2 = i
        · rw [e1]
          intro x y hx hy
          rw [hb] at hx; cases hx
          exact ho.tr _ _ _ (hbest k h0 hk e1 _ _ ha hy) (by simpa using hlt)
        · exact h.1 k h0 hk e1
    · rename_i h1
      exact fun k h0 hk => h.1 k h0 hk (by omega)
/-- The root is due first. -/
theorem heap_root (ho : Ord lt) {L : List α} (h : Heap lt L) : ∀ k, k < L.length → le? lt L 0 k := by
  intro k
  induction k using Nat.strongRecOn with
  | ind k ih =>
    intro hk
    cases k with
    | zero => intro x y hx hy; rw [hx] at hy; cases hy; exact ho.irr _
    | succ k =>
      intro x y hx hy
      obtain ⟨p, hp⟩ : ∃ p, L[k / 2]? = some p := ⟨_, List.getElem?_eq_getElem (by omega)⟩
      have h1 := ih (k / 2) (by omega) (by omega) _ _ hx hp
      have h2 := h (k + 1) (by omega) hk
      rw [show (k + 1 - 1) / 2 = k / 2 by simp] at h2
      exact ho.tr _ _ _ (h2 _ _ hp hy) h1
/-- Push. -/
def pushL (x : α) (L : List α) : List α := upL lt L.length (L ++ [x])
theorem pushL_heap (ho : Ord lt) (x : α) {L : List α} (h : Heap lt L) : Heap lt (pushL lt x L) := by
  refine upL_heap lt ho _ _ (by simp) ⟨fun k h0 hk hne => ?_, fun k h0 hk hp h0' => ?_⟩
  · simp at hk
    intro a b ha hb
    rw [List.getElem?_append_left (by omega)] at ha hb
    exact h k h0 (by omega) _ _ ha hb
  · simp at hk; omega
theorem pushL_perm (x : α) (L : List α) : (pushL lt x L).Perm (L ++ [x]) := upL_perm lt _ _
/-- Pop: what is left. -/
def popL (L : List α) : List α := (downL lt (L.length - 1) 0 (swp L 0 (L.length - 1))).take (L.length - 1)
theorem popL_spec (ho : Ord lt) {L : List α} (h : Heap lt L) (h0 : 0 < L.length) :
    ∃ x, L[0]? = some x ∧ (downL lt (L.length - 1) 0 (swp L 0 (L.length - 1)))[L.length - 1]? = some x ∧ Heap lt (popL lt L) ∧ L.Perm (popL lt L ++ [x]) ∧ (downL lt (L.length - 1) 0 (swp L 0 (L.length - 1))).length = L.length := by
  obtain ⟨x, hx⟩ : ∃ x, L[0]? = some x := ⟨_, List.getElem?_eq_getElem h0⟩
  obtain ⟨d1, d2, d3⟩ := downL_all lt (L.length - 1) _ 0 (swp L 0 (L.length - 1)) (Nat.le_refl _)
  have hl := swp_length L 0 (L.length - 1)
  have hlast : (downL lt (L.length - 1) 0 (swp L 0 (L.length - 1)))[L.length - 1]? = some x := by
    rw [d3 _ (Nat.le_refl _) (by omega), swp_get L _ _ _ h0 (by omega) (by omega), if_pos rfl, hx]
  refine ⟨x, hx, hlast, ?_, ?_, by omega⟩
  · have hd : HeapDown lt (L.length - 1) 0 (swp L 0 (L.length - 1)) := by
      refine ⟨fun k h1 hk hne a b ha hb => ?_, fun k _ _ _ h => by omega⟩
      rw [swp_get L _ _ _ h0 (by omega) (by omega), if_neg (by omega), if_neg (by omega)] at ha
      rw [swp_get L _ _ _ h0 (by omega) (by omega), if_neg (by omega), if_neg (by omega)] at hb
      exact h k h1 (by omega) _ _ ha hb
    have := downL_heap lt ho (L.length - 1) _ 0 _ (Nat.le_refl _) (by omega) hd
    intro k h1 hk a b ha hb
    unfold popL at hk ha hb
    rw [List.length_take] at hk
    rw [List.getElem?_take] at ha hb
    rw [if_pos (by omega)] at ha hb
    exact this k h1 (by omega) _ _ ha hb
  · refine List.Perm.trans ((d2.trans (swp_perm _ _ _)).symm) ?_
    unfold popL
    have e : downL lt (L.length - 1) 0 (swp L 0 (L.length - 1)) = (downL lt (L.length - 1) 0 (swp L 0 (L.length - 1))).take (L.length - 1) ++ [x] := by
      have hll : L.length - 1 < (downL lt (L.length - 1) 0 (swp L 0 (L.length - 1))).length := by omega
      conv => lhs; rw [← List.take_append_drop (L.length - 1) (downL lt (L.length - 1) 0 (swp L 0 (L.length - 1)))]
      congr 1
      rw [List.drop_eq_getElem_cons hll, List.drop_eq_nil_of_le (by omega)]
      rw [List.getElem?_eq_getElem hll] at hlast
      rw [Option.some.inj hlast]
    rw [← e]
end
end Go.Proofs.Ytaekkkcgoegllaa
