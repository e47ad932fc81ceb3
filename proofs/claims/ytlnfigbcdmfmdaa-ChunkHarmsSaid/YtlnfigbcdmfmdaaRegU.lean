/- A region that draws its order, of any kind: values known ahead, but for those of the operations S, which may do anything; what holds of memory is said of which of S are done, and of their values. No function of the program is named here. -/
import Derived.Test.YtlnfigbcdmfmdaaRegInvK
namespace Go.Proofs.Ytlnfigbcdmfmdaa
open Go.RowKit
set_option linter.unusedVariables false
set_option linter.unusedSimpArgs false

section
variable {P : Program} {ops : Array Oper} {Q : Exit → Act → World → Prop}
def edgeU (ops : Array Oper) (k i : Nat) : Bool := (ops[k]?).any fun o => o.after.any fun e => Region.binds .any e && decide (e.on = i)
def setU {α : Type} (f : Nat → α) (k : Nat) (v : α) : Nat → α := fun x => if x = k then v else f x
theorem setU_same {α : Type} (f : Nat → α) (k : Nat) (v : α) : setU f k v k = v := if_pos rfl
theorem setU_other {α : Type} (f : Nat → α) (k x : Nat) (v : α) (h : x ≠ k) : setU f k v x = f x := if_neg h
def okU (ops : Array Oper) (D : List Nat) : Bool :=
  (List.range ops.size).all (fun i => (ops[i]?).all fun o => (!o.dst.isSome || D.contains (slotOf ops i)) && o.after.all fun e => !Region.binds .any e || decide (e.on < i)) &&
  (List.range ops.size).all (fun i => (List.range ops.size).all fun j => decide (i = j) || !((ops[i]?).bind (·.dst)).isSome || !((ops[j]?).bind (·.dst)).isSome || decide (slotOf ops i ≠ slotOf ops j))
/-- What is known of an operation that is done. -/
def KnowU (ops : Array Oper) (S : List Nat) (val : Nat → Value) (f : Nat → Bool) (v : Nat → Value) (g : Nat → Value) (k : Nat) : Prop :=
  (S.contains k = false → ((ops[k]?).bind (·.dst)).isSome = true → g (slotOf ops k) = val k) ∧ (S.contains k = true → f k = true ∧ (((ops[k]?).bind (·.dst)).isSome = true → g (slotOf ops k) = v k))
theorem KnowU.val {S : List Nat} {val : Nat → Value} {f : Nat → Bool} {v g : Nat → Value} {k : Nat} (h : KnowU ops S val f v g k) (h1 : S.contains k = false) (h2 : ((ops[k]?).bind (·.dst)).isSome = true) : g (slotOf ops k) = val k := h.1 h1 h2
/-- What a step owes. -/
def StepU (P : Program) (ops : Array Oper) (Q : Exit → Act → World → Prop) (base : Array Value) (D S : List Nat) (val : Nat → Value) (J : (Nat → Bool) → (Nat → Value) → World → Prop) (i : Nat) (o : Oper) : Prop :=
  ∀ (f : Nat → Bool) (v g : Nat → Value) (w' : World), J f v w' → f i = false → (∀ k, f k = true → edgeU ops k i = false) → (∀ e ∈ o.after, Region.binds .any e = true → KnowU ops S val f v g e.on) →
    OpOb P ops Q o (mkAct base D g) w' (fun a' w'' => if S.contains i = true then ∃ u, a' = (mkAct base D g).put o.dst u ∧ J (setU f i true) (setU v i u) w'' else a' = (mkAct base D g).put o.dst (val i) ∧ Ext [] w' w'')
def StepsU (P : Program) (ops : Array Oper) (Q : Exit → Act → World → Prop) (base : Array Value) (D S : List Nat) (val : Nat → Value) (J : (Nat → Bool) → (Nat → Value) → World → Prop) : Nat → List Oper → Prop
  | _, [] => True
  | k, o :: l => StepU P ops Q base D S val J k o ∧ StepsU P ops Q base D S val J (k + 1) l
theorem StepsU.get {base : Array Value} {D S : List Nat} {val : Nat → Value} {J : (Nat → Bool) → (Nat → Value) → World → Prop} : ∀ (l : List Oper) (k i : Nat) (o : Oper), StepsU P ops Q base D S val J k l → l[i]? = some o → StepU P ops Q base D S val J (k + i) o
  | [], _, _, _, _, h => by simp at h
  | x :: l, k, 0, o, hs, h => by simp at h; subst h; exact hs.1
  | x :: l, k, i + 1, o, hs, h => by
    have := StepsU.get l (k + 1) i o hs.2 (by simpa using h)
    rwa [Nat.add_right_comm, Nat.add_assoc] at this
def ClosedU (ops : Array Oper) (L : Array Bool) : Prop := ∀ (k : Nat) (o' : Oper), ops[k]? = some o' → L[k]? = some true → ∀ e ∈ o'.after, Region.binds .any e = true → L[e.on]? = some true
theorem wp_region_u {id : Nat} {base : Array Value} {w : World} (D S : List Nat) (val : Nat → Value) (J : (Nat → Bool) → (Nat → Value) → World → Prop) (hm : P.follows .mixedOrders = true) (hok : okU ops D = true)
    (hst : ∀ f v w w', J f v w → Ext [] w w' → J f v w') (h0 : J (fun _ => false) (fun _ => undef) w) (hstep : StepsU P ops Q base D S val J 0 ops.toList)
    (hdone : ∀ (f : Nat → Bool) (v g : Nat → Value) (w' : World), J f v w' → (∀ k, k < ops.size → KnowU ops S val f v g k) → Q .normal (mkAct base D g) w') :
    (Code.region id ops true).wp P Q ⟨base, []⟩ w := by
  unfold okU at hok
  rw [Bool.and_eq_true, List.all_eq_true, List.all_eq_true] at hok
  have hO : ∀ i o, ops[i]? = some o → (o.dst = none ∨ (o.dst = some (slotOf ops i) ∧ D.contains (slotOf ops i) = true)) ∧ ∀ e ∈ o.after, Region.binds .any e = true → e.on < i := by
    intro i o ho
    have hlt : i < ops.size := (Array.getElem?_eq_some_iff.1 ho).1
    have h := hok.1 i (by simpa using hlt)
    rw [ho] at h
    simp only [Option.all_some, Bool.and_eq_true, Bool.or_eq_true, Bool.not_eq_true'] at h
    refine ⟨?_, fun e he hb => ?_⟩
    · cases hd : o.dst with
      | none => exact .inl rfl
      | some d =>
        right
        have hs : slotOf ops i = d := by unfold slotOf; rw [ho]; simp [hd]
        rcases h.1 with h2 | h2
        · rw [hd] at h2; cases h2
        · exact ⟨by rw [hs], h2⟩
    · have := Array.all_eq_true_iff_forall_mem.1 h.2 e he
      simp only [hb, Bool.not_true, Bool.false_or, decide_eq_true_eq] at this
      exact this
  have hI : ∀ i j, i < ops.size → j < ops.size → ((ops[i]?).bind (·.dst)).isSome = true → ((ops[j]?).bind (·.dst)).isSome = true → i ≠ j → slotOf ops i ≠ slotOf ops j := by
    intro i j hil hjl hdi hdj hne
    have h := hok.2 i (by simpa using hil)
    rw [List.all_eq_true] at h
    have h2 := h j (by simpa using hjl)
    simp only [hdi, hdj, Bool.not_true, Bool.or_false, Bool.or_eq_true, decide_eq_true_eq] at h2
    exact h2.resolve_left hne
  refine wp_region_any hm (wpAny_inv (Inv := fun L a w' => L.size = ops.size ∧ ClosedU ops L ∧ ∃ f v g, a = mkAct base D g ∧ J f v w' ∧ (∀ k, f k = true → L[k]? = some true) ∧ (∀ k, L[k]? = some true → KnowU ops S val f v g k)) ?_ ?_ ops.size _ _ _ (by simp) ⟨by simp, ?_, _, _, _, mkAct_self base D, hst _ _ _ _ h0 ((Ext.refl [] w).drew), by simp, ?_⟩)
  · rintro L a1 w1 ⟨hs, hcl, f, v, g, rfl, hJ, hf, hv⟩ hr
    have hall : ∀ n, n < ops.size → L[n]? = some true := by
      intro n
      induction n using Nat.strongRecOn with
      | ind n ihn =>
        intro hn
        have hL : L[n]? = some L[n] := by simp [hs, hn]
        rw [hL]
        cases hb : L[n] with
        | true => rfl
        | false =>
          exfalso
          have hrn : n ∈ Region.ready .any ops L := by
            rw [mem_ready]
            refine ⟨by simp [hL, hb], ops[n], by simp [hn], fun e he hbd => ?_⟩
            have hlt2 := (hO n ops[n] (by simp [hn])).2 e he hbd
            have := ihn e.on hlt2 (by omega)
            simp [this]
          rw [hr] at hrn
          cases hrn
    exact hdone f v g w1 hJ (fun k hk => hv k (hall k hk))
  · rintro L a1 w1 i ⟨hs, hcl, f, v, g, rfl, hJ, hf, hv⟩ hi
    obtain ⟨h0', o, ho, hdeps⟩ := mem_ready.1 hi
    obtain ⟨hd, hlt⟩ := hO i o ho
    have hil : i < ops.size := (Array.getElem?_eq_some_iff.1 ho).1
    have hLi : L[i]? = some false := by
      have : i < L.size := by omega
      simp [this] at h0' ⊢; exact h0'
    have hdp : ∀ e ∈ o.after, Region.binds .any e = true → L[e.on]? = some true := by
      intro e he hb
      have hlt2 := hlt e he hb
      have hsz : e.on < L.size := by omega
      have := hdeps e he hb
      simp [hsz] at this ⊢; exact this
    have hfi : f i = false := by
      cases hfi : f i with
      | false => rfl
      | true => have := hf i hfi; rw [hLi] at this; cases this
    have hed : ∀ k, f k = true → edgeU ops k i = false := by
      intro k hk
      cases he : edgeU ops k i with
      | false => rfl
      | true =>
        exfalso
        unfold edgeU at he
        cases hok : ops[k]? with
        | none => rw [hok] at he; cases he
        | some o' =>
          rw [hok] at he
          simp only [Option.any_some] at he
          obtain ⟨j, hj, h2⟩ := Array.any_eq_true.1 he
          rw [Bool.and_eq_true, decide_eq_true_eq] at h2
          have := hcl k o' hok (hf k hk) _ (Array.getElem_mem hj) h2.1
          rw [h2.2, hLi] at this
          cases this
    unfold wpOp
    simp only [ho]
    have hob := StepsU.get ops.toList 0 i o hstep (by simpa using ho)
    rw [Nat.zero_add] at hob
    have hob := hob f v g w1 hJ hfi hed (fun e he hb => hv e.on (hdp e he hb))
    have hset : ∀ j, j ≠ i → (L.setIfInBounds i true)[j]? = L[j]? := fun j hj => by rw [Array.getElem?_setIfInBounds]; simp [Ne.symm hj]
    have hseti : (L.setIfInBounds i true)[i]? = some true := by
      have : i < L.size := by omega
      simp [this]
    have hcl2 : ClosedU ops (L.setIfInBounds i true) := by
      intro k o' ho' hk e he hb
      by_cases hki : k = i
      · subst hki
        rw [ho] at ho'; cases ho'
        have h1 := hdp e he hb
        by_cases he2 : e.on = k
        · rw [he2]; exact hseti
        · rw [hset _ he2]; exact h1
      · rw [hset k hki] at hk
        have h1 := hcl k o' ho' hk e he hb
        by_cases he2 : e.on = i
        · rw [he2]; exact hseti
        · rw [hset _ he2]; exact h1
    have key : ∀ a2 w2, (if S.contains i = true then ∃ u, a2 = (mkAct base D g).put o.dst u ∧ J (setU f i true) (setU v i u) w2 else a2 = (mkAct base D g).put o.dst (val i) ∧ Ext [] w1 w2) →
        ((L.setIfInBounds i true).size = ops.size ∧ ClosedU ops (L.setIfInBounds i true) ∧ ∃ f v g, a2 = mkAct base D g ∧ J f v w2 ∧ (∀ k, f k = true → (L.setIfInBounds i true)[k]? = some true) ∧ (∀ k, (L.setIfInBounds i true)[k]? = some true → KnowU ops S val f v g k)) := by
      intro a2 w2 h
      refine ⟨by simp [hs], hcl2, ?_⟩
      have hfk : ∀ k, f k = true → (L.setIfInBounds i true)[k]? = some true := fun k hk => by
        by_cases hki : k = i
        · rw [hki]; exact hseti
        · rw [hset k hki]; exact hf k hk
      have hgo : ∀ u k, k ≠ i → L[k]? = some true → ((ops[k]?).bind (·.dst)).isSome = true → (o.dst.isSome = true → updG g (slotOf ops i) u (slotOf ops k) = g (slotOf ops k)) := by
        intro u k hki hk hdk hdi
        unfold updG
        have hkl : k < ops.size := by have := (Array.getElem?_eq_some_iff.1 hk).1; omega
        rw [if_neg (hI k i hkl hil hdk (by rw [ho]; exact hdi) hki)]
      by_cases hSi : S.contains i = true
      · rw [if_pos hSi] at h
        obtain ⟨u, rfl, hJ2⟩ := h
        have hfs : ∀ k, setU f i true k = true → (L.setIfInBounds i true)[k]? = some true := fun k hk => by
          by_cases hki : k = i
          · rw [hki]; exact hseti
          · rw [setU_other _ _ _ _ hki] at hk; exact hfk k hk
        rcases hd with hd | ⟨hd, hD⟩
        · rw [hd]
          refine ⟨_, _, g, rfl, hJ2, hfs, fun k hk => ?_⟩
          by_cases hki : k = i
          · subst hki
            refine ⟨fun hc => (by rw [hSi] at hc; cases hc), fun _ => ⟨setU_same _ _ _, fun hdk => ?_⟩⟩
            rw [ho] at hdk
            rw [Option.bind_some, hd] at hdk
            cases hdk
          · rw [hset k hki] at hk
            obtain ⟨h1, h2⟩ := hv k hk
            refine ⟨h1, fun hc => ?_⟩
            rw [setU_other _ _ _ _ hki, setU_other _ _ _ _ hki]
            exact h2 hc
        · rw [hd, mkAct_put _ _ _ _ _ hD]
          refine ⟨_, _, _, rfl, hJ2, hfs, fun k hk => ?_⟩
          by_cases hki : k = i
          · subst hki
            refine ⟨fun hc => (by rw [hSi] at hc; cases hc), fun _ => ⟨setU_same _ _ _, fun hdk => ?_⟩⟩
            rw [setU_same]
            unfold updG
            rw [if_pos rfl]
          · rw [hset k hki] at hk
            obtain ⟨h1, h2⟩ := hv k hk
            refine ⟨fun hc hdk => ?_, fun hc => ?_⟩
            · rw [hgo _ k hki hk hdk (by rw [hd]; rfl)]
              exact h1 hc hdk
            · rw [setU_other _ _ _ _ hki, setU_other _ _ _ _ hki]
              refine ⟨(h2 hc).1, fun hdk => ?_⟩
              rw [hgo _ k hki hk hdk (by rw [hd]; rfl)]
              exact (h2 hc).2 hdk
      · rw [if_neg hSi] at h
        have hSf : S.contains i = false := by simpa using hSi
        obtain ⟨rfl, hx⟩ := h
        have hJ2 := hst _ _ _ _ hJ hx
        rcases hd with hd | ⟨hd, hD⟩
        · rw [hd]
          refine ⟨f, v, g, rfl, hJ2, hfk, fun k hk => ?_⟩
          by_cases hki : k = i
          · subst hki
            refine ⟨fun _ hdk => ?_, fun hc => (by rw [hSf] at hc; cases hc)⟩
            rw [ho] at hdk
            rw [Option.bind_some, hd] at hdk
            cases hdk
          · rw [hset k hki] at hk
            exact hv k hk
        · rw [hd, mkAct_put _ _ _ _ _ hD]
          refine ⟨f, v, _, rfl, hJ2, hfk, fun k hk => ?_⟩
          by_cases hki : k = i
          · subst hki
            refine ⟨fun _ _ => ?_, fun hc => (by rw [hSf] at hc; cases hc)⟩
            unfold updG
            rw [if_pos rfl]
          · rw [hset k hki] at hk
            obtain ⟨h1, h2⟩ := hv k hk
            refine ⟨fun hc hdk => ?_, fun hc => ⟨(h2 hc).1, fun hdk => ?_⟩⟩
            · rw [hgo _ k hki hk hdk (by rw [hd]; rfl)]
              exact h1 hc hdk
            · rw [hgo _ k hki hk hdk (by rw [hd]; rfl)]
              exact (h2 hc).2 hdk
    rcases hob with ⟨hw, hob⟩ | ⟨hw, hob⟩
    · rw [if_pos hw]
      exact .inl (Oper.wp_mono (fun a2 w2 h => key a2 w2 h) hob)
    · rw [if_neg (by rw [hw]; decide)]
      exact key _ _ hob
  · intro k o' ho' hk
    rw [Array.getElem?_replicate] at hk
    split at hk <;> cases hk
  · intro k hk
    rw [Array.getElem?_replicate] at hk
    split at hk <;> cases hk
theorem setU_of {f : Nat → Bool} {k x : Nat} (h : setU f k true x = false) : x ≠ k ∧ f x = false := by
  unfold setU at h
  split at h
  · cases h
  · rename_i hn; exact ⟨hn, h⟩
/-- The pieces of the arms. -/
theorem arm_u {S : List Nat} {i : Nat} {o : Oper} {A : Act} {w : World} {u : Value} {R : Act → World → Prop} (hs : S.contains i = false) (h : OpOb P ops Q o A w (fun a' w'' => a' = A.put o.dst u ∧ Ext [] w w'')) :
    OpOb P ops Q o A w (fun a' w'' => if S.contains i = true then R a' w'' else a' = A.put o.dst u ∧ Ext [] w w'') := by
  simp only [hs, Bool.false_eq_true, if_false]
  exact h
theorem arms_u {S : List Nat} {i : Nat} {o : Oper} {A : Act} {w : World} {R R' : Act → World → Prop} (hs : S.contains i = true) (h : OpOb P ops Q o A w R) :
    OpOb P ops Q o A w (fun a' w'' => if S.contains i = true then R a' w'' else R' a' w'') := by
  simp only [hs, if_true]
  exact h
theorem float_u {o : Oper} {A : Act} {w : World} {u : Value} (h : ∀ K : Act → World → Prop, (∀ w'', Ext [] w w'' → K (A.put o.dst u) w'') → o.wp P A w K Q) : o.wp P A w (fun a' w'' => a' = A.put o.dst u ∧ Ext [] w w'') Q :=
  h _ (fun w'' h1 => ⟨rfl, h1⟩)
theorem mid_u {o : Oper} {A : Act} {w : World} {Mid : Value → World → Prop} (h : ∀ K : Act → World → Prop, (∀ v w'', Mid v w'' → K (A.put o.dst v) w'') → o.wp P A w K Q) : o.wp P A w (fun a' w'' => ∃ v, a' = A.put o.dst v ∧ Mid v w'') Q :=
  h _ (fun v w'' h1 => ⟨v, rfl, h1⟩)
theorem not_yet {f : Nat → Bool} {i k : Nat} (h : ∀ k, f k = true → edgeU ops k i = false) (he : edgeU ops k i = true) : f k = false := by
  cases hf : f k with
  | false => rfl
  | true => rw [h k hf] at he; cases he
/-- What is known of value, in the act. -/
theorem value_u {S : List Nat} {val : Nat → Value} {f : Nat → Bool} {v g : Nat → Value} {k : Nat} (h : KnowU ops S val f v g k) (h1 : S.contains k = false) (h2 : ((ops[k]?).bind (·.dst)).isSome = true) : g (slotOf ops k) = val k := h.1 h1 h2
theorem special_u {S : List Nat} {val : Nat → Value} {f : Nat → Bool} {v g : Nat → Value} {k : Nat} (h : KnowU ops S val f v g k) (h1 : S.contains k = true) (h2 : ((ops[k]?).bind (·.dst)).isSome = true) : f k = true ∧ g (slotOf ops k) = v k := ⟨(h.2 h1).1, (h.2 h1).2 h2⟩
end
theorem op_undef {P : Program} {ops : Array Oper} {Q : Exit → Act → World → Prop} {base : Array Value} {D : List Nat} {g : Nat → Value} {o : Oper} {j d : Nat} {c : Bool} {w : World} {K : Act → World → Prop} (hg : o.guard = some (j, c)) (hd : (ops[j]?).bind (·.dst) = some d) (hD : D.contains d = true) (hb : decide (d < base.size) = true) (hv : g d = undef)
    (h : K ((mkAct base D g).put o.dst undef) w) : OpOb P ops Q o (mkAct base D g) w K := by
  refine .inr ⟨?_, h⟩
  have hb' : d < base.size := by simpa using hb
  have hD' : d ∈ D := by simpa using hD
  have ht : (mkAct base D g).tmps[d]? = some undef := by simp [mkAct, hb', hD', hv]
  have hy : yielded ops (mkAct base D g).tmps j = none := by
    unfold yielded
    rw [hd]
    simp only [Option.bind_some, ht]
    rfl
  simp [Region.wanted, hg, hy]
end Go.Proofs.Ytlnfigbcdmfmdaa
