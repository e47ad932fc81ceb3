/- A region that draws its order, whose values are known ahead and whose world is a function of what has been done: loads ahead of stores, by the edges. No function of the program is named here. -/
import Derived.Test.YtaekkkcgoegllaaRegInv
namespace Go.Proofs.Ytaekkkcgoegllaa
open Go.RowKit
set_option linter.unusedVariables false

section
variable {P : Program} {ops : Array Oper} {Q : Exit → Act → World → Prop}
def okDet (ops : Array Oper) (D : List Nat) : Bool :=
  (List.range ops.size).all (fun i => (ops[i]?).all fun o => o.guard.isNone && (!o.dst.isSome || D.contains (slotOf ops i)) && o.after.all fun e => !Region.binds .any e || decide (e.on < i)) &&
  (List.range ops.size).all (fun i => (List.range ops.size).all fun j => decide (i = j) || !((ops[i]?).bind (·.dst)).isSome || !((ops[j]?).bind (·.dst)).isSome || decide (slotOf ops i ≠ slotOf ops j))
def Closed (ops : Array Oper) (L : Array Bool) : Prop := ∀ (k : Nat) (o' : Oper), ops[k]? = some o' → L[k]? = some true → ∀ e ∈ o'.after, Region.binds .any e = true → L[e.on]? = some true
def Vals (ops : Array Oper) (val : Nat → Value) (L : Array Bool) (g : Nat → Value) : Prop := ∀ (k : Nat) (o' : Oper), ops[k]? = some o' → o'.dst.isSome = true → L[k]? = some true → g (slotOf ops k) = val k
def StepD (P : Program) (ops : Array Oper) (Q : Exit → Act → World → Prop) (base : Array Value) (D : List Nat) (val : Nat → Value) (st : Array Bool → World) (i : Nat) (o : Oper) : Prop :=
  ∀ (L : Array Bool) (g : Nat → Value), L.size = ops.size → L[i]? = some false → (∀ e ∈ o.after, Region.binds .any e = true → L[e.on]? = some true) → Closed ops L → Vals ops val L g →
    o.wp P (mkAct base D g) (st L) (fun a' w' => a' = (mkAct base D g).put o.dst (val i) ∧ w' = st (L.setIfInBounds i true)) Q
def StepsD (P : Program) (ops : Array Oper) (Q : Exit → Act → World → Prop) (base : Array Value) (D : List Nat) (val : Nat → Value) (st : Array Bool → World) : Nat → List Oper → Prop
  | _, [] => True
  | k, o :: l => StepD P ops Q base D val st k o ∧ StepsD P ops Q base D val st (k + 1) l
theorem StepsD.get {base : Array Value} {D : List Nat} {val : Nat → Value} {st : Array Bool → World} : ∀ (l : List Oper) (k i : Nat) (o : Oper), StepsD P ops Q base D val st k l → l[i]? = some o → StepD P ops Q base D val st (k + i) o
  | [], _, _, _, _, h => by simp at h
  | x :: l, k, 0, o, hs, h => by simp at h; subst h; exact hs.1
  | x :: l, k, i + 1, o, hs, h => by
    have := StepsD.get l (k + 1) i o hs.2 (by simpa using h)
    rwa [Nat.add_right_comm, Nat.add_assoc] at this
theorem wp_region_det {id : Nat} {base : Array Value} {w : World} (D : List Nat) (val : Nat → Value) (st : Array Bool → World) (hm : P.follows .mixedOrders = true) (hok : okDet ops D = true)
    (h0 : st (Array.replicate ops.size false) = w.drew) (hstep : StepsD P ops Q base D val st 0 ops.toList)
    (hdone : ∀ (g : Nat → Value), (∀ (k : Nat) (o' : Oper), ops[k]? = some o' → o'.dst.isSome = true → g (slotOf ops k) = val k) → Q .normal (mkAct base D g) (st (Array.replicate ops.size true))) :
    (Code.region id ops true).wp P Q ⟨base, []⟩ w := by
  unfold okDet at hok
  rw [Bool.and_eq_true, List.all_eq_true, List.all_eq_true] at hok
  have hO : ∀ i o, ops[i]? = some o → o.guard = none ∧ (o.dst = none ∨ (o.dst = some (slotOf ops i) ∧ D.contains (slotOf ops i) = true)) ∧ ∀ e ∈ o.after, Region.binds .any e = true → e.on < i := by
    intro i o ho
    have hlt : i < ops.size := (Array.getElem?_eq_some_iff.1 ho).1
    have h := hok.1 i (by simpa using hlt)
    rw [ho] at h
    simp only [Option.all_some, Bool.and_eq_true, Option.isNone_iff_eq_none, Bool.or_eq_true, Bool.not_eq_true'] at h
    refine ⟨h.1.1, ?_, fun e he hb => ?_⟩
    · cases hd : o.dst with
      | none => exact .inl rfl
      | some d =>
        right
        have hs : slotOf ops i = d := by unfold slotOf; rw [ho]; simp [hd]
        rcases h.1.2 with h2 | h2
        · rw [hd] at h2; cases h2
        · exact ⟨by rw [hs], h2⟩
    · have := Array.all_eq_true_iff_forall_mem.1 h.2 e he
      simp only [hb, Bool.not_true, Bool.false_or, decide_eq_true_eq] at this
      exact this
  have hI : ∀ i j oi oj, ops[i]? = some oi → ops[j]? = some oj → oi.dst.isSome = true → oj.dst.isSome = true → i ≠ j → slotOf ops i ≠ slotOf ops j := by
    intro i j oi oj hi hj hdi hdj hne
    have hil : i < ops.size := (Array.getElem?_eq_some_iff.1 hi).1
    have hjl : j < ops.size := (Array.getElem?_eq_some_iff.1 hj).1
    have h := hok.2 i (by simpa using hil)
    rw [List.all_eq_true] at h
    have h2 := h j (by simpa using hjl)
    rw [hi, hj] at h2
    simp only [Option.bind_some, hdi, hdj, Bool.not_true, Bool.or_false, Bool.or_eq_true, decide_eq_true_eq] at h2
    exact h2.resolve_left hne
  refine wp_region_any hm (wpAny_inv (Inv := fun L a w' => L.size = ops.size ∧ Closed ops L ∧ w' = st L ∧ ∃ g, a = mkAct base D g ∧ Vals ops val L g) ?_ ?_ ops.size _ _ _ (by simp) ⟨by simp, ?_, h0.symm, _, mkAct_self base D, ?_⟩)
  · rintro L a1 w1 ⟨hs, hcl, rfl, g, rfl, hv⟩ hr
    have hall : ∀ n, n < ops.size → L[n]? = some true := by
      intro n
      induction n using Nat.strongRecOn with
      | ind n ihn =>
        intro hn
        have hL : L[n]? = some L[n] := by simp [hs, hn]
        rw [hL]
        cases hb : L[n] with
        | true => rfl
        | false =>
          exfalso
          have hrn : n ∈ Region.ready .any ops L := by
            rw [mem_ready]
            refine ⟨by simp [hL, hb], ops[n], by simp [hn], fun e he hbd => ?_⟩
            have hlt2 := (hO n ops[n] (by simp [hn])).2.2 e he hbd
            have := ihn e.on hlt2 (by omega)
            simp [this]
          rw [hr] at hrn
          cases hrn
    have hLe : L = Array.replicate ops.size true := by
      apply Array.ext
      · simp [hs]
      · intro n h1 h2
        have := hall n (by omega)
        rw [Array.getElem?_eq_getElem h1] at this
        simpa using Option.some.inj this
    have := hdone g (fun k o' ho hd => hv k o' ho hd (hall k (Array.getElem?_eq_some_iff.1 ho).1))
    rw [← hLe] at this
    exact this
  · rintro L a1 w1 i ⟨hs, hcl, rfl, g, rfl, hv⟩ hi
    obtain ⟨h0', o, ho, hdeps⟩ := mem_ready.1 hi
    obtain ⟨hg, hd, hlt⟩ := hO i o ho
    have hil : i < ops.size := (Array.getElem?_eq_some_iff.1 ho).1
    have hLi : L[i]? = some false := by
      have : i < L.size := by omega
      simp [this] at h0' ⊢; exact h0'
    have hdp : ∀ e ∈ o.after, Region.binds .any e = true → L[e.on]? = some true := by
      intro e he hb
      have hlt2 := hlt e he hb
      have hsz : e.on < L.size := by omega
      have := hdeps e he hb
      simp [hsz] at this ⊢; exact this
    unfold wpOp
    simp only [ho]
    have hw : Region.wanted o (yielded ops (mkAct base D g).tmps) = true := by simp [Region.wanted, hg]
    rw [if_pos hw]
    have hob := StepsD.get ops.toList 0 i o hstep (by simpa using ho)
    rw [Nat.zero_add] at hob
    have hset : ∀ j, j ≠ i → (L.setIfInBounds i true)[j]? = L[j]? := fun j hj => by rw [Array.getElem?_setIfInBounds]; simp [Ne.symm hj]
    have hseti : (L.setIfInBounds i true)[i]? = some true := by
      have : i < L.size := by omega
      simp [this]
    refine .inl (Oper.wp_mono ?_ (hob L g hs hLi hdp hcl hv))
    rintro a2 w2 ⟨rfl, rfl⟩
    have hcl2 : Closed ops (L.setIfInBounds i true) := by
      intro k o' ho' hk e he hb
      by_cases hki : k = i
      · subst hki
        rw [ho] at ho'; cases ho'
        have h1 := hdp e he hb
        by_cases he2 : e.on = k
        · rw [he2]; exact hseti
        · rw [hset _ he2]; exact h1
      · rw [hset k hki] at hk
        have h1 := hcl k o' ho' hk e he hb
        by_cases he2 : e.on = i
        · rw [he2]; exact hseti
        · rw [hset _ he2]; exact h1
    rcases hd with hd | ⟨hd, hD⟩
    · rw [hd]
      refine ⟨by simp [hs], hcl2, rfl, g, rfl, fun k o' ho' hdk hk => ?_⟩
      by_cases hki : k = i
      · subst hki; rw [ho] at ho'; cases ho'; rw [hd] at hdk; cases hdk
      · rw [hset k hki] at hk; exact hv k o' ho' hdk hk
    · rw [hd, mkAct_put _ _ _ _ _ hD]
      refine ⟨by simp [hs], hcl2, rfl, _, rfl, fun k o' ho' hdk hk => ?_⟩
      unfold updG
      by_cases hki : k = i
      · subst hki; rw [if_pos rfl]
      · rw [hset k hki] at hk
        rw [if_neg (hI k i o' o ho' ho hdk (by rw [hd]; rfl) hki)]
        exact hv k o' ho' hdk hk
  · intro k o' ho' hk
    rw [Array.getElem?_replicate] at hk
    split at hk <;> cases hk
  · intro k o' ho' hd hk
    rw [Array.getElem?_replicate] at hk
    split at hk <;> cases hk
end
end Go.Proofs.Ytaekkkcgoegllaa
