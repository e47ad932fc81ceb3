/- A region that draws its order: all its operations but the last only read; every one is, over others, ahead of the last. No function of the program is named here. -/
import Derived.Test.YtaekkkcgoegllaaRegDet
namespace Go.Proofs.Ytaekkkcgoegllaa
open Go.RowKit
set_option linter.unusedVariables false

section
variable {P : Program} {ops : Array Oper} {Q : Exit → Act → World → Prop}
def okSucc (ops : Array Oper) : Bool := (List.range (ops.size - 1)).all fun k => (List.range ops.size).any fun j => decide (k < j) && (ops[j]?).any fun o => o.after.any fun e => Region.binds .any e && decide (e.on = k)
def StepsL (P : Program) (ops : Array Oper) (Q : Exit → Act → World → Prop) (base : Array Value) (D : List Nat) (val : Nat → Value) (w : World) : Nat → List Oper → Prop
  | _, [] => True
  | k, o :: l => ((k + 1 = ops.size → ∀ (g : Nat → Value), (∀ (j : Nat) (o' : Oper), ops[j]? = some o' → j ≠ k → o'.dst.isSome = true → g (slotOf ops j) = val j) → o.wp P (mkAct base D g) w (fun a' w' => Q .normal a' w') Q) ∧
      (k + 1 ≠ ops.size → ∀ (g : Nat → Value), (∀ e ∈ o.after, Region.binds .any e = true → g (slotOf ops e.on) = val e.on) → o.wp P (mkAct base D g) w (fun a' w' => a' = (mkAct base D g).put o.dst (val k) ∧ w' = w) Q)) ∧ StepsL P ops Q base D val w (k + 1) l
theorem StepsL.get {base : Array Value} {D : List Nat} {val : Nat → Value} {w : World} : ∀ (l : List Oper) (k i : Nat) (o : Oper), StepsL P ops Q base D val w k l → l[i]? = some o →
    ((k + i + 1 = ops.size → ∀ (g : Nat → Value), (∀ (j : Nat) (o' : Oper), ops[j]? = some o' → j ≠ k + i → o'.dst.isSome = true → g (slotOf ops j) = val j) → o.wp P (mkAct base D g) w (fun a' w' => Q .normal a' w') Q) ∧
      (k + i + 1 ≠ ops.size → ∀ (g : Nat → Value), (∀ e ∈ o.after, Region.binds .any e = true → g (slotOf ops e.on) = val e.on) → o.wp P (mkAct base D g) w (fun a' w' => a' = (mkAct base D g).put o.dst (val (k + i)) ∧ w' = w) Q))
  | [], _, _, _, _, h => by simp at h
  | x :: l, k, 0, o, hs, h => by simp at h; subst h; exact hs.1
  | x :: l, k, i + 1, o, hs, h => by
    have := StepsL.get l (k + 1) i o hs.2 (by simpa using h)
    rwa [Nat.add_right_comm k 1 i, Nat.add_assoc k i 1] at this
theorem wp_region_last {id : Nat} {base : Array Value} {w : World} (D : List Nat) (val : Nat → Value) (hm : P.follows .mixedOrders = true) (hok : okDet ops D = true) (hsu : okSucc ops = true) (hdst : ops.toList.all (fun o => o.dst.isSome) = true) (h1 : 0 < ops.size)
    (hstep : StepsL P ops Q base D val w.drew 0 ops.toList) :
    (Code.region id ops true).wp P Q ⟨base, []⟩ w := by
  unfold okDet at hok
  rw [Bool.and_eq_true, List.all_eq_true, List.all_eq_true] at hok
  have hO : ∀ i o, ops[i]? = some o → o.guard = none ∧ (o.dst = none ∨ (o.dst = some (slotOf ops i) ∧ D.contains (slotOf ops i) = true)) ∧ ∀ e ∈ o.after, Region.binds .any e = true → e.on < i := by
    intro i o ho
    have hlt : i < ops.size := (Array.getElem?_eq_some_iff.1 ho).1
    have h := hok.1 i (by simpa using hlt)
    rw [ho] at h
    simp only [Option.all_some, Bool.and_eq_true, Option.isNone_iff_eq_none, Bool.or_eq_true, Bool.not_eq_true'] at h
    refine ⟨h.1.1, ?_, fun e he hb => ?_⟩
    · cases hd : o.dst with
      | none => exact .inl rfl
      | some d =>
        right
        have hs : slotOf ops i = d := by unfold slotOf; rw [ho]; simp [hd]
        rcases h.1.2 with h2 | h2
        · rw [hd] at h2; cases h2
        · exact ⟨by rw [hs], h2⟩
    · have := Array.all_eq_true_iff_forall_mem.1 h.2 e he
      simp only [hb, Bool.not_true, Bool.false_or, decide_eq_true_eq] at this
      exact this
  have hI : ∀ i j oi oj, ops[i]? = some oi → ops[j]? = some oj → oi.dst.isSome = true → oj.dst.isSome = true → i ≠ j → slotOf ops i ≠ slotOf ops j := by
    intro i j oi oj hi hj hdi hdj hne
    have hil : i < ops.size := (Array.getElem?_eq_some_iff.1 hi).1
    have hjl : j < ops.size := (Array.getElem?_eq_some_iff.1 hj).1
    have h := hok.2 i (by simpa using hil)
    rw [List.all_eq_true] at h
    have h2 := h j (by simpa using hjl)
    rw [hi, hj] at h2
    simp only [Option.bind_some, hdi, hdj, Bool.not_true, Bool.or_false, Bool.or_eq_true, decide_eq_true_eq] at h2
    exact h2.resolve_left hne
  have hds : ∀ (i : Nat) (o : Oper), ops[i]? = some o → o.dst.isSome = true := by
    intro i o ho
    rw [List.all_eq_true] at hdst
    exact hdst o (by have := Array.mem_of_getElem? ho; simpa using this)
  have hsucc : ∀ k, k + 1 < ops.size → ∃ j o, k < j ∧ ops[j]? = some o ∧ ∃ e ∈ o.after, Region.binds .any e = true ∧ e.on = k := by
    intro k hk
    unfold okSucc at hsu
    rw [List.all_eq_true] at hsu
    have h := hsu k (by simp; omega)
    rw [List.any_eq_true] at h
    obtain ⟨j, hj, h⟩ := h
    simp only [Bool.and_eq_true, decide_eq_true_eq] at h
    obtain ⟨hkj, h⟩ := h
    cases ho : ops[j]? with
    | none => rw [ho] at h; cases h
    | some o =>
      rw [ho] at h
      simp only [Option.any_some] at h
      obtain ⟨q, hq, h⟩ := Array.any_eq_true.1 h
      simp only [Bool.and_eq_true, decide_eq_true_eq] at h
      exact ⟨j, o, hkj, ho, _, Array.getElem_mem hq, h.1, h.2⟩
  refine wp_region_any hm (wpAny_inv (Inv := fun L a w' => L.size = ops.size ∧ ((L[ops.size - 1]? = some false ∧ Closed ops L ∧ w' = w.drew ∧ ∃ g, a = mkAct base D g ∧ Vals ops val L g) ∨ ((∀ n, n < ops.size → L[n]? = some true) ∧ Q .normal a w'))) ?_ ?_ ops.size _ _ _ (by simp) ⟨by simp, .inl ⟨?_, ?_, rfl, _, mkAct_self base D, ?_⟩⟩)
  · rintro L a1 w1 ⟨hs, h⟩ hr
    have hall : ∀ n, n < ops.size → L[n]? = some true := by
      intro n
      induction n using Nat.strongRecOn with
      | ind n ihn =>
        intro hn
        have hL : L[n]? = some L[n] := by simp [hs, hn]
        rw [hL]
        cases hb : L[n] with
        | true => rfl
        | false =>
          exfalso
          have hrn : n ∈ Region.ready .any ops L := by
            rw [mem_ready]
            refine ⟨by simp [hL, hb], ops[n], by simp [hn], fun e he hbd => ?_⟩
            have hlt2 := (hO n ops[n] (by simp [hn])).2.2 e he hbd
            have := ihn e.on hlt2 (by omega)
            simp [this]
          rw [hr] at hrn
          cases hrn
    rcases h with ⟨hf, _⟩ | ⟨_, h⟩
    · rw [hall _ (by omega)] at hf; cases hf
    · exact h
  · rintro L a1 w1 i ⟨hs, h⟩ hi
    obtain ⟨h0', o, ho, hdeps⟩ := mem_ready.1 hi
    obtain ⟨hg, hd, hlt⟩ := hO i o ho
    have hil : i < ops.size := (Array.getElem?_eq_some_iff.1 ho).1
    have hLi : L[i]? = some false := by
      have : i < L.size := by omega
      simp [this] at h0' ⊢; exact h0'
    rcases h.symm with ⟨hall, _⟩ | ⟨hf, hcl, rfl, g, rfl, hv⟩
    · rw [hall i hil] at hLi; cases hLi
    have hdp : ∀ e ∈ o.after, Region.binds .any e = true → L[e.on]? = some true := by
      intro e he hb
      have hlt2 := hlt e he hb
      have hsz : e.on < L.size := by omega
      have := hdeps e he hb
      simp [hsz] at this ⊢; exact this
    unfold wpOp
    simp only [ho]
    have hw : Region.wanted o (yielded ops (mkAct base D g).tmps) = true := by simp [Region.wanted, hg]
    rw [if_pos hw]
    have hob := StepsL.get ops.toList 0 i o hstep (by simpa using ho)
    rw [Nat.zero_add] at hob
    have hset : ∀ j, j ≠ i → (L.setIfInBounds i true)[j]? = L[j]? := fun j hj => by rw [Array.getElem?_setIfInBounds]; simp [Ne.symm hj]
    have hseti : (L.setIfInBounds i true)[i]? = some true := by
      have : i < L.size := by omega
      simp [this]
    by_cases hl : i + 1 = ops.size
    · -- the last
      have htrue : ∀ m k, ops.size - k ≤ m → k < i → L[k]? = some true := by
        intro m
        induction m with
        | zero => intro k h1 h2; omega
        | succ m ih =>
          intro k h1 h2
          obtain ⟨j, o', hkj, ho', e, he, hb, heq⟩ := hsucc k (by omega)
          have hjl := (Array.getElem?_eq_some_iff.1 ho').1
          by_cases hji : j = i
          · subst hji
            rw [ho] at ho'; cases ho'
            have := hdp e he hb
            rwa [heq] at this
          · have := hcl j o' ho' (ih j (by omega) (by omega)) e he hb
            rwa [heq] at this
      refine .inl (Oper.wp_mono ?_ (hob.1 hl g (fun j o' hj hne hd' => hv j o' hj hd' (htrue _ j (Nat.le_refl _) (by have := (Array.getElem?_eq_some_iff.1 hj).1; omega)))))
      intro a2 w2 hq
      refine ⟨by simp [hs], .inr ⟨fun n hn => ?_, hq⟩⟩
      by_cases hni : n = i
      · subst hni; exact hseti
      · rw [hset n hni]; exact htrue _ n (Nat.le_refl _) (by omega)
    · have hev : ∀ e ∈ o.after, Region.binds .any e = true → g (slotOf ops e.on) = val e.on := by
        intro e he hb
        have hlt2 := hlt e he hb
        have hj : ops[e.on]? = some (ops[e.on]'(by omega)) := Array.getElem?_eq_getElem _
        exact hv _ _ hj (hds _ _ hj) (hdp e he hb)
      refine .inl (Oper.wp_mono ?_ (hob.2 hl g hev))
      rintro a2 w2 ⟨rfl, rfl⟩
      have hcl2 : Closed ops (L.setIfInBounds i true) := by
        intro k o' ho' hk e he hb
        by_cases hki : k = i
        · subst hki
          rw [ho] at ho'; cases ho'
          have h1 := hdp e he hb
          by_cases he2 : e.on = k
          · rw [he2]; exact hseti
          · rw [hset _ he2]; exact h1
        · rw [hset k hki] at hk
          have h1 := hcl k o' ho' hk e he hb
          by_cases he2 : e.on = i
          · rw [he2]; exact hseti
          · rw [hset _ he2]; exact h1
      have hf2 : (L.setIfInBounds i true)[ops.size - 1]? = some false := by rw [hset _ (by omega)]; exact hf
      rcases hd with hd | ⟨hd, hD⟩
      · have := hds i o ho; rw [hd] at this; cases this
      · rw [hd, mkAct_put _ _ _ _ _ hD]
        refine ⟨by simp [hs], .inl ⟨hf2, hcl2, rfl, _, rfl, fun k o' ho' hdk hk => ?_⟩⟩
        unfold updG
        by_cases hki : k = i
        · subst hki; rw [if_pos rfl]
        · rw [hset k hki] at hk
          rw [if_neg (hI k i o' o ho' ho hdk (by rw [hd]; rfl) hki)]
          exact hv k o' ho' hdk hk
  · rw [Array.getElem?_replicate, if_pos (by omega)]
  · intro k o' ho' hk
    rw [Array.getElem?_replicate] at hk
    split at hk <;> cases hk
  · intro k o' ho' hd hk
    rw [Array.getElem?_replicate] at hk
    split at hk <;> cases hk
end
end Go.Proofs.Ytaekkkcgoegllaa
