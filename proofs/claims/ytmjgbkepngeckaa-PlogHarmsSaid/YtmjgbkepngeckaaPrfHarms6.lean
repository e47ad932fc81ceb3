/- PlogHarms holds: for every input the call returns true, and the arguments read as they did. No condition. -/
import Derived.Test.YtmjgbkepngeckaaRegInvK
import Derived.Test.YtmjgbkepngeckaaEntries
import Derived.Test.YtmjgbkepngeckaaArgs
import Derived.Deep.Strs
import Derived.Lib.SmallJoins
import Derived.Test.YtmjgbkepngeckaaDo6
import Derived.OwnWalk
namespace Go.Proofs.Ytmjgbkepngeckaa
open Go.RowKit
set_option linter.unusedVariables false
set_option linter.unusedSimpArgs false

section
variable {P : Program} {ops : Array Oper} {Q : Exit → Act → World → Prop}
def edgeU (ops : Array Oper) (k i : Nat) : Bool := (ops[k]?).any fun o => o.after.any fun e => Region.binds .any e && decide (e.on = i)
def setU {α : Type} (f : Nat → α) (k : Nat) (v : α) : Nat → α := fun x => if x = k then v else f x
theorem setU_same {α : Type} (f : Nat → α) (k : Nat) (v : α) : setU f k v k = v := if_pos rfl
theorem setU_other {α : Type} (f : Nat → α) (k x : Nat) (v : α) (h : x ≠ k) : setU f k v x = f x := if_neg h
def okU (ops : Array Oper) (D : List Nat) : Bool :=
  (List.range ops.size).all (fun i => (ops[i]?).all fun o => (!o.dst.isSome || D.contains (slotOf ops i)) && o.after.all fun e => !Region.binds .any e || decide (e.on < i)) &&
  (List.range ops.size).all (fun i => (List.range ops.size).all fun j => decide (i = j) || !((ops[i]?).bind (·.dst)).isSome || !((ops[j]?).bind (·.dst)).isSome || decide (slotOf ops i ≠ slotOf ops j))
/-- What is known of an operation that is done. -/
def KnowU (ops : Array Oper) (S : List Nat) (val : Nat → Value) (f : Nat → Bool) (v : Nat → Value) (g : Nat → Value) (k : Nat) : Prop :=
  (S.contains k = false → ((ops[k]?).bind (·.dst)).isSome = true → g (slotOf ops k) = val k) ∧ (S.contains k = true → f k = true ∧ (((ops[k]?).bind (·.dst)).isSome = true → g (slotOf ops k) = v k))
theorem KnowU.val {S : List Nat} {val : Nat → Value} {f : Nat → Bool} {v g : Nat → Value} {k : Nat} (h : KnowU ops S val f v g k) (h1 : S.contains k = false) (h2 : ((ops[k]?).bind (·.dst)).isSome = true) : g (slotOf ops k) = val k := h.1 h1 h2
/-- What a step owes. -/
def StepU (P : Program) (ops : Array Oper) (Q : Exit → Act → World → Prop) (base : Array Value) (D S : List Nat) (val : Nat → Value) (J : (Nat → Bool) → (Nat → Value) → World → Prop) (i : Nat) (o : Oper) : Prop :=
  ∀ (f : Nat → Bool) (v g : Nat → Value) (w' : World), J f v w' → f i = false → (∀ k, f k = true → edgeU ops k i = false) → (∀ e ∈ o.after, Region.binds .any e = true → KnowU ops S val f v g e.on) →
    OpOb P ops Q o (mkAct base D g) w' (fun a' w'' => if S.contains i = true then ∃ u, a' = (mkAct base D g).put o.dst u ∧ J (setU f i true) (setU v i u) w'' else a' = (mkAct base D g).put o.dst (val i) ∧ Ext [] w' w'')
def StepsU (P : Program) (ops : Array Oper) (Q : Exit → Act → World → Prop) (base : Array Value) (D S : List Nat) (val : Nat → Value) (J : (Nat → Bool) → (Nat → Value) → World → Prop) : Nat → List Oper → Prop
  | _, [] => True
  | k, o :: l => StepU P ops Q base D S val J k o ∧ StepsU P ops Q base D S val J (k + 1) l
theorem StepsU.get {base : Array Value} {D S : List Nat} {val : Nat → Value} {J : (Nat → Bool) → (Nat → Value) → World → Prop} : ∀ (l : List Oper) (k i : Nat) (o : Oper), StepsU P ops Q base D S val J k l → l[i]? = some o → StepU P ops Q base D S val J (k + i) o
  | [], _, _, _, _, h => by simp at h
  | x :: l, k, 0, o, hs, h => by simp at h; subst h; exact hs.1
  | x :: l, k, i + 1, o, hs, h => by
    have := StepsU.get l (k + 1) i o hs.2 (by simpa using h)
    rwa [Nat.add_right_comm, Nat.add_assoc] at this
def ClosedU (ops : Array Oper) (L : Array Bool) : Prop := ∀ (k : Nat) (o' : Oper), ops[k]? = some o' → L[k]? = some true → ∀ e ∈ o'.after, Region.binds .any e = true → L[e.on]? = some true
theorem wp_region_u {id : Nat} {base : Array Value} {w : World} (D S : List Nat) (val : Nat → Value) (J : (Nat → Bool) → (Nat → Value) → World → Prop) (hm : P.follows .mixedOrders = true) (hok : okU ops D = true)
    (hst : ∀ f v w w', J f v w → Ext [] w w' → J f v w') (h0 : J (fun _ => false) (fun _ => undef) w) (hstep : StepsU P ops Q base D S val J 0 ops.toList)
    (hdone : ∀ (f : Nat → Bool) (v g : Nat → Value) (w' : World), J f v w' → (∀ k, k < ops.size → KnowU ops S val f v g k) → Q .normal (mkAct base D g) w') :
    (Code.region id ops true).wp P Q ⟨base, []⟩ w := by
  unfold okU at hok
  rw [Bool.and_eq_true, List.all_eq_true, List.all_eq_true] at hok
  have hO : ∀ i o, ops[i]? = some o → (o.dst = none ∨ (o.dst = some (slotOf ops i) ∧ D.contains (slotOf ops i) = true)) ∧ ∀ e ∈ o.after, Region.binds .any e = true → e.on < i := by
    intro i o ho
    have hlt : i < ops.size := (Array.getElem?_eq_some_iff.1 ho).1
    have h := hok.1 i (by simpa using hlt)
    rw [ho] at h
    simp only [Option.all_some, Bool.and_eq_true, Bool.or_eq_true, Bool.not_eq_true'] at h
    refine ⟨?_, fun e he hb => ?_⟩
    · cases hd : o.dst with
      | none => exact .inl rfl
      | some d =>
        right
        have hs : slotOf ops i = d := by unfold slotOf; rw [ho]; simp [hd]
        rcases h.1 with h2 | h2
        · rw [hd] at h2; cases h2
        · exact ⟨by rw [hs], h2⟩
    · have := Array.all_eq_true_iff_forall_mem.1 h.2 e he
      simp only [hb, Bool.not_true, Bool.false_or, decide_eq_true_eq] at this
      exact this
  have hI : ∀ i j, i < ops.size → j < ops.size → ((ops[i]?).bind (·.dst)).isSome = true → ((ops[j]?).bind (·.dst)).isSome = true → i ≠ j → slotOf ops i ≠ slotOf ops j := by
    intro i j hil hjl hdi hdj hne
    have h := hok.2 i (by simpa using hil)
    rw [List.all_eq_true] at h
    have h2 := h j (by simpa using hjl)
    simp only [hdi, hdj, Bool.not_true, Bool.or_false, Bool.or_eq_true, decide_eq_true_eq] at h2
    exact h2.resolve_left hne
  refine wp_region_any hm (wpAny_inv (Inv := fun L a w' => L.size = ops.size ∧ ClosedU ops L ∧ ∃ f v g, a = mkAct base D g ∧ J f v w' ∧ (∀ k, f k = true → L[k]? = some true) ∧ (∀ k, L[k]? = some true → KnowU ops S val f v g k)) ?_ ?_ ops.size _ _ _ (by simp) ⟨by simp, ?_, _, _, _, mkAct_self base D, hst _ _ _ _ h0 ((Ext.refl [] w).drew), by simp, ?_⟩)
  · rintro L a1 w1 ⟨hs, hcl, f, v, g, rfl, hJ, hf, hv⟩ hr
    have hall : ∀ n, n < ops.size → L[n]? = some true := by
      intro n
      induction n using Nat.strongRecOn with
      | ind n ihn =>
        intro hn
        have hL : L[n]? = some L[n] := by simp [hs, hn]
        rw [hL]
        cases hb : L[n] with
        | true => rfl
        | false =>
          exfalso
          have hrn : n ∈ Region.ready .any ops L := by
            rw [mem_ready]
            refine ⟨by simp [hL, hb], ops[n], by simp [hn], fun e he hbd => ?_⟩
            have hlt2 := (hO n ops[n] (by simp [hn])).2 e he hbd
            have := ihn e.on hlt2 (by omega)
            simp [this]
          rw [hr] at hrn
          cases hrn
    exact hdone f v g w1 hJ (fun k hk => hv k (hall k hk))
  · rintro L a1 w1 i ⟨hs, hcl, f, v, g, rfl, hJ, hf, hv⟩ hi
    obtain ⟨h0', o, ho, hdeps⟩ := mem_ready.1 hi
    obtain ⟨hd, hlt⟩ := hO i o ho
    have hil : i < ops.size := (Array.getElem?_eq_some_iff.1 ho).1
    have hLi : L[i]? = some false := by
      have : i < L.size := by omega
      simp [this] at h0' ⊢; exact h0'
    have hdp : ∀ e ∈ o.after, Region.binds .any e = true → L[e.on]? = some true := by
      intro e he hb
      have hlt2 := hlt e he hb
      have hsz : e.on < L.size := by omega
      have := hdeps e he hb
      simp [hsz] at this ⊢; exact this
    have hfi : f i = false := by
      cases hfi : f i with
      | false => rfl
      | true => have := hf i hfi; rw [hLi] at this; cases this
    have hed : ∀ k, f k = true → edgeU ops k i = false := by
      intro k hk
      cases he : edgeU ops k i with
      | false => rfl
      | true =>
        exfalso
        unfold edgeU at he
        cases hok : ops[k]? with
        | none => rw [hok] at he; cases he
        | some o' =>
          rw [hok] at he
          simp only [Option.any_some] at he
          obtain ⟨j, hj, h2⟩ := Array.any_eq_true.1 he
          rw [Bool.and_eq_true, decide_eq_true_eq] at h2
          have := hcl k o' hok (hf k hk) _ (Array.getElem_mem hj) h2.1
          rw [h2.2, hLi] at this
          cases this
    unfold wpOp
    simp only [ho]
    have hob := StepsU.get ops.toList 0 i o hstep (by simpa using ho)
    rw [Nat.zero_add] at hob
    have hob := hob f v g w1 hJ hfi hed (fun e he hb => hv e.on (hdp e he hb))
    have hset : ∀ j, j ≠ i → (L.setIfInBounds i true)[j]? = L[j]? := fun j hj => by rw [Array.getElem?_setIfInBounds]; simp [Ne.symm hj]
    have hseti : (L.setIfInBounds i true)[i]? = some true := by
      have : i < L.size := by omega
      simp [this]
    have hcl2 : ClosedU ops (L.setIfInBounds i true) := by
      intro k o' ho' hk e he hb
      by_cases hki : k = i
      · subst hki
        rw [ho] at ho'; cases ho'
        have h1 := hdp e he hb
        by_cases he2 : e.on = k
        · rw [he2]; exact hseti
        · rw [hset _ he2]; exact h1
      · rw [hset k hki] at hk
        have h1 := hcl k o' ho' hk e he hb
        by_cases he2 : e.on = i
        · rw [he2]; exact hseti
        · rw [hset _ he2]; exact h1
    have key : ∀ a2 w2, (if S.contains i = true then ∃ u, a2 = (mkAct base D g).put o.dst u ∧ J (setU f i true) (setU v i u) w2 else a2 = (mkAct base D g).put o.dst (val i) ∧ Ext [] w1 w2) →
        ((L.setIfInBounds i true).size = ops.size ∧ ClosedU ops (L.setIfInBounds i true) ∧ ∃ f v g, a2 = mkAct base D g ∧ J f v w2 ∧ (∀ k, f k = true → (L.setIfInBounds i true)[k]? = some true) ∧ (∀ k, (L.setIfInBounds i true)[k]? = some true → KnowU ops S val f v g k)) := by
      intro a2 w2 h
      refine ⟨by simp [hs], hcl2, ?_⟩
      have hfk : ∀ k, f k = true → (L.setIfInBounds i true)[k]? = some true := fun k hk => by
        by_cases hki : k = i
        · rw [hki]; exact hseti
        · rw [hset k hki]; exact hf k hk
      have hgo : ∀ u k, k ≠ i → L[k]? = some true → ((ops[k]?).bind (·.dst)).isSome = true → (o.dst.isSome = true → updG g (slotOf ops i) u (slotOf ops k) = g (slotOf ops k)) := by
        intro u k hki hk hdk hdi
        unfold updG
        have hkl : k < ops.size := by have := (Array.getElem?_eq_some_iff.1 hk).1; omega
        rw [if_neg (hI k i hkl hil hdk (by rw [ho]; exact hdi) hki)]
      by_cases hSi : S.contains i = true
      · rw [if_pos hSi] at h
        obtain ⟨u, rfl, hJ2⟩ := h
        have hfs : ∀ k, setU f i true k = true → (L.setIfInBounds i true)[k]? = some true := fun k hk => by
          by_cases hki : k = i
          · rw [hki]; exact hseti
          · rw [setU_other _ _ _ _ hki] at hk; exact hfk k hk
        rcases hd with hd | ⟨hd, hD⟩
        · rw [hd]
          refine ⟨_, _, g, rfl, hJ2, hfs, fun k hk => ?_⟩
          by_cases hki : k = i
          · subst hki
            refine ⟨fun hc => (by rw [hSi] at hc; cases hc), fun _ => ⟨setU_same _ _ _, fun hdk => ?_⟩⟩
            rw [ho] at hdk
            rw [Option.bind_some, hd] at hdk
            cases hdk
          · rw [hset k hki] at hk
            obtain ⟨h1, h2⟩ := hv k hk
            refine ⟨h1, fun hc => ?_⟩
            rw [setU_other _ _ _ _ hki, setU_other _ _ _ _ hki]
            exact h2 hc
        · rw [hd, mkAct_put _ _ _ _ _ hD]
          refine ⟨_, _, _, rfl, hJ2, hfs, fun k hk => ?_⟩
          by_cases hki : k = i
          · subst hki
            refine ⟨fun hc => (by rw [hSi] at hc; cases hc), fun _ => ⟨setU_same _ _ _, fun hdk => ?_⟩⟩
            rw [setU_same]
            unfold updG
            rw [if_pos rfl]
          · rw [hset k hki] at hk
            obtain ⟨h1, h2⟩ := hv k hk
            refine ⟨fun hc hdk => ?_, fun hc => ?_⟩
            · rw [hgo _ k hki hk hdk (by rw [hd]; rfl)]
              exact h1 hc hdk
            · rw [setU_other _ _ _ _ hki, setU_other _ _ _ _ hki]
              refine ⟨(h2 hc).1, fun hdk => ?_⟩
              rw [hgo _ k hki hk hdk (by rw [hd]; rfl)]
              exact (h2 hc).2 hdk
      · rw [if_neg hSi] at h
        have hSf : S.contains i = false := by simpa using hSi
        obtain ⟨rfl, hx⟩ := h
        have hJ2 := hst _ _ _ _ hJ hx
        rcases hd with hd | ⟨hd, hD⟩
        · rw [hd]
          refine ⟨f, v, g, rfl, hJ2, hfk, fun k hk => ?_⟩
          by_cases hki : k = i
          · subst hki
            refine ⟨fun _ hdk => ?_, fun hc => (by rw [hSf] at hc; cases hc)⟩
            rw [ho] at hdk
            rw [Option.bind_some, hd] at hdk
            cases hdk
          · rw [hset k hki] at hk
            exact hv k hk
        · rw [hd, mkAct_put _ _ _ _ _ hD]
          refine ⟨f, v, _, rfl, hJ2, hfk, fun k hk => ?_⟩
          by_cases hki : k = i
          · subst hki
            refine ⟨fun _ _ => ?_, fun hc => (by rw [hSf] at hc; cases hc)⟩
            unfold updG
            rw [if_pos rfl]
          · rw [hset k hki] at hk
            obtain ⟨h1, h2⟩ := hv k hk
            refine ⟨fun hc hdk => ?_, fun hc => ⟨(h2 hc).1, fun hdk => ?_⟩⟩
            · rw [hgo _ k hki hk hdk (by rw [hd]; rfl)]
              exact h1 hc hdk
            · rw [hgo _ k hki hk hdk (by rw [hd]; rfl)]
              exact (h2 hc).2 hdk
    rcases hob with ⟨hw, hob⟩ | ⟨hw, hob⟩
    · rw [if_pos hw]
      exact .inl (Oper.wp_mono (fun a2 w2 h => key a2 w2 h) hob)
    · rw [if_neg (by rw [hw]; decide)]
      exact key _ _ hob
  · intro k o' ho' hk
    rw [Array.getElem?_replicate] at hk
    split at hk <;> cases hk
  · intro k hk
    rw [Array.getElem?_replicate] at hk
    split at hk <;> cases hk
theorem setU_of {f : Nat → Bool} {k x : Nat} (h : setU f k true x = false) : x ≠ k ∧ f x = false := by
  unfold setU at h
  split at h
  · cases h
  · rename_i hn; exact ⟨hn, h⟩
/-- The pieces of the arms. -/
theorem arm_u {S : List Nat} {i : Nat} {o : Oper} {A : Act} {w : World} {u : Value} {R : Act → World → Prop} (hs : S.contains i = false) (h : OpOb P ops Q o A w (fun a' w'' => a' = A.put o.dst u ∧ Ext [] w w'')) :
    OpOb P ops Q o A w (fun a' w'' => if S.contains i = true then R a' w'' else a' = A.put o.dst u ∧ Ext [] w w'') := by
  simp only [hs, Bool.false_eq_true, if_false]
  exact h
theorem arms_u {S : List Nat} {i : Nat} {o : Oper} {A : Act} {w : World} {R R' : Act → World → Prop} (hs : S.contains i = true) (h : OpOb P ops Q o A w R) :
    OpOb P ops Q o A w (fun a' w'' => if S.contains i = true then R a' w'' else R' a' w'') := by
  simp only [hs, if_true]
  exact h
theorem float_u {o : Oper} {A : Act} {w : World} {u : Value} (h : ∀ K : Act → World → Prop, (∀ w'', Ext [] w w'' → K (A.put o.dst u) w'') → o.wp P A w K Q) : o.wp P A w (fun a' w'' => a' = A.put o.dst u ∧ Ext [] w w'') Q :=
  h _ (fun w'' h1 => ⟨rfl, h1⟩)
theorem mid_u {o : Oper} {A : Act} {w : World} {Mid : Value → World → Prop} (h : ∀ K : Act → World → Prop, (∀ v w'', Mid v w'' → K (A.put o.dst v) w'') → o.wp P A w K Q) : o.wp P A w (fun a' w'' => ∃ v, a' = A.put o.dst v ∧ Mid v w'') Q :=
  h _ (fun v w'' h1 => ⟨v, rfl, h1⟩)
theorem not_yet {f : Nat → Bool} {i k : Nat} (h : ∀ k, f k = true → edgeU ops k i = false) (he : edgeU ops k i = true) : f k = false := by
  cases hf : f k with
  | false => rfl
  | true => rw [h k hf] at he; cases he
/-- What is known of value, in the act. -/
theorem value_u {S : List Nat} {val : Nat → Value} {f : Nat → Bool} {v g : Nat → Value} {k : Nat} (h : KnowU ops S val f v g k) (h1 : S.contains k = false) (h2 : ((ops[k]?).bind (·.dst)).isSome = true) : g (slotOf ops k) = val k := h.1 h1 h2
theorem special_u {S : List Nat} {val : Nat → Value} {f : Nat → Bool} {v g : Nat → Value} {k : Nat} (h : KnowU ops S val f v g k) (h1 : S.contains k = true) (h2 : ((ops[k]?).bind (·.dst)).isSome = true) : f k = true ∧ g (slotOf ops k) = v k := ⟨(h.2 h1).1, (h.2 h1).2 h2⟩
end
theorem op_undef {P : Program} {ops : Array Oper} {Q : Exit → Act → World → Prop} {base : Array Value} {D : List Nat} {g : Nat → Value} {o : Oper} {j d : Nat} {c : Bool} {w : World} {K : Act → World → Prop} (hg : o.guard = some (j, c)) (hd : (ops[j]?).bind (·.dst) = some d) (hD : D.contains d = true) (hb : decide (d < base.size) = true) (hv : g d = undef)
    (h : K ((mkAct base D g).put o.dst undef) w) : OpOb P ops Q o (mkAct base D g) w K := by
  refine .inr ⟨?_, h⟩
  have hb' : d < base.size := by simpa using hb
  have hD' : d ∈ D := by simpa using hD
  have ht : (mkAct base D g).tmps[d]? = some undef := by simp [mkAct, hb', hD', hv]
  have hy : yielded ops (mkAct base D g).tmps j = none := by
    unfold yielded
    rw [hd]
    simp only [Option.bind_some, ht]
    rfl
  simp [Region.wanted, hg, hy]
end Go.Proofs.Ytmjgbkepngeckaa
namespace Go.Proofs.Ytmjgbkepngeckaa
open Go.RowKit Go.Lib Go.MapKept
open Go.ChangeMaps (setBlock heap_setBlock_same heap_setBlock_other)
set_option linter.unusedVariables false
set_option linter.unusedSimpArgs false

/-- A key. -/
def pairK (i : Int) : Value := .agg #[.int .i64 i, .int .i64 0]
theorem pairK_inj {i j : Int} (h : pairK i = pairK j) : i = j := by simpa [pairK] using h
theorem range02 : List.range' 0 2 = [0, 1] := rfl
theorem int_equalIn (m : Nat) (x y : Int) (w : World) : (Op.equalIn (m + 1) 3 (.int .i64 x) (.int .i64 y)).run Try.prog w = .ok (decide (x = y)) w := by
  simp [Op.equalIn, Result.andThen, go_sem]
  rfl
theorem pair_eqAux (m : Nat) (a b : Int) (w : World) (h : ∀ x y : Int, (Op.equalIn m 3 (.int .i64 x) (.int .i64 y)).run Try.prog w = .ok (decide (x = y)) w) : (Op.equalIn (m + 1) 49 (pairK a) (pairK b)).run Try.prog w = .ok (decide (a = b)) w := by
  unfold pairK
  by_cases hab : a = b <;> simp [Op.equalIn, Result.andThen, range02, List.forIn_cons, List.forIn_nil, h, hab, go_sem]
theorem pair_equal (a b : Int) (w : World) : (Op.equal 49 (pairK a) (pairK b)).run Try.prog w = .ok (decide (a = b)) w :=
  pair_eqAux 9999 a b w (fun x y => int_equalIn 9998 x y w)
theorem pair_checkIn (b0 : Bool) (n : Nat) (a : Int) (w : World) : (Instr.checkKey b0 (n + 2) 49 (pairK a)).run Try.prog w = .ok () w := by
  unfold pairK
  simp [Instr.checkKey, Result.andThen, range02, List.forIn_cons, List.forIn_nil, go_sem]
theorem asking (n : Int) : ∀ (l : List MapEntry) (i : Nat) (w : World), (∀ x ∈ l, ∃ k, x.key = pairK k) →
    ((∀ x ∈ l, x.key ≠ pairK n) ∧ (Instr.findAsking 49 (pairK n) l i).run Try.prog w = .ok none w) ∨ (∃ j x, x ∈ l ∧ x.key = pairK n ∧ (Instr.findAsking 49 (pairK n) l i).run Try.prog w = .ok (some (j, x.val)) w) := by
  intro l
  induction l with
  | nil => intro i w _; exact .inl ⟨by simp, by simp [Instr.findAsking]⟩
  | cons e l ih =>
    intro i w hk
    obtain ⟨k, hek⟩ := hk e (by simp)
    by_cases h : n = k
    · right
      refine ⟨i, e, by simp, by rw [hek, h], ?_⟩
      simp [Instr.findAsking, hek, pair_equal, h, Result.andThen]
    · rcases ih (i + 1) w (fun x hx => hk x (by simp [hx])) with ⟨h1, h2⟩ | ⟨j, x, h1, h2, h3⟩
      · left
        refine ⟨fun x hx => ?_, ?_⟩
        · rcases List.mem_cons.1 hx with rfl | hx
          · rw [hek]; exact fun e => h (pairK_inj e).symm
          · exact h1 x hx
        · simp [Instr.findAsking, hek, pair_equal, h, h2, Result.andThen]
      · right
        exact ⟨j, x, by simp [h1], h2, by simp [Instr.findAsking, hek, pair_equal, h, h3, Result.andThen]⟩
theorem pair_check (b0 : Bool) (a : Int) (w : World) : (Instr.checkKey b0 10000 49 (pairK a)).run Try.prog w = .ok () w := pair_checkIn b0 9998 a w
/-- Block b is a map from pairs (i, 0) that holds f. -/
def MapPAt (w : World) (b : Nat) (f : Int → Option Value) : Prop :=
  ∃ es clock, w.heap[b]? = some (.map es clock) ∧ (∀ x ∈ es.toList, ∃ k, x.key = pairK k) ∧ ∀ k v, f k = some v ↔ ∃ e ∈ es.toList, e.key = pairK k ∧ e.val = v
theorem MapPAt.keep {w w' : World} {b : Nat} {f : Int → Option Value} {F : List Nat} (h : MapPAt w b f) (hx : Ext F w w') (hb : b ∉ F) : MapPAt w' b f := by
  obtain ⟨es, clock, h1, h2⟩ := h
  exact ⟨es, clock, hx.heap hb h1, h2⟩
theorem MapPAt.newg {w : World} {g : Nat} (hg : w.heap.size = g) : MapPAt (w.alloc (.map #[] 0)) g (fun _ => none) := by
  subst hg
  exact ⟨#[], 0, heap_alloc_new w _, by simp, fun k v => by simp⟩
theorem findP (n : Int) (es : List MapEntry) (w : World) (hk : ∀ x ∈ es, ∃ k, x.key = pairK k) :
    ((∀ x ∈ es, x.key ≠ pairK n) ∧ (Instr.findKey 49 (pairK n) es).run Try.prog w = .ok none w) ∨ (∃ j x, x ∈ es ∧ x.key = pairK n ∧ (Instr.findKey 49 (pairK n) es).run Try.prog w = .ok (some (j, x.val)) w) := by
  have hf : (Instr.findKey 49 (pairK n) es).run Try.prog w = (Instr.findAsking 49 (pairK n) es 0).run Try.prog w := by
    cases es with
    | nil => simp [Instr.findKey, Instr.findNow, Instr.findAsking, Result.andThen, go_sem]
    | cons e l => simp [Instr.findKey, Instr.findNow, Instr.sameNow, Result.andThen, go_sem]
  rw [hf]
  exact asking n es 0 w hk
theorem MapPAt.lookup {w : World} {b : Nat} {f : Int → Option Value} (h : MapPAt w b f) (n : Int) :
    (Instr.lookup 46 (.map (some b)) (pairK n) false).run Try.prog w = .ok ((f n).getD (.bool false)) w := by
  obtain ⟨es, clock, hb, hks, hf⟩ := h
  rcases findP n es.toList w hks with ⟨h1, h2⟩ | ⟨j, x, h1, h2, h3⟩
  · have : f n = none := by
      cases hfn : f n with
      | none => rfl
      | some v => obtain ⟨x, hx, hx1, _⟩ := (hf n v).1 hfn; exact absurd hx1 (h1 x hx)
    simp [Instr.lookup, MapKept.run_getObj_map hb, pair_check, h2, Result.andThen, this, go_sem]
  · have : f n = some x.val := (hf n x.val).2 ⟨x, h1, h2, rfl⟩
    simp [Instr.lookup, MapKept.run_getObj_map hb, pair_check, h3, Result.andThen, this, go_sem]
theorem MapPAt.update {w : World} {b : Nat} {f : Int → Option Value} (h : MapPAt w b f) (n : Int) (v : Value) (hn : f n = none) :
    ∃ w', (Instr.mapUpdate 46 (.map (some b)) (pairK n) v).run Try.prog w = .ok () w' ∧ MapPAt w' b (fun x => if x = n then some v else f x) ∧ Ext [b] w w' := by
  obtain ⟨es, clock, hb, hks, hf⟩ := h
  have hext : ∀ o, Ext [b] w { w with heap := w.heap.setIfInBounds b o } := fun o =>
    ⟨rfl, rfl, rfl, by simp, fun i _ hi => (heap_set hb).2 i (by simpa using hi)⟩
  rcases findP n es.toList w hks with ⟨h1, h2⟩ | ⟨j, x, h1, h2, h3⟩
  · refine ⟨{ w with heap := w.heap.setIfInBounds b (.map (es.push { key := pairK n, val := v, born := clock }) (clock + 1)) }, ?_, ⟨_, _, (heap_set hb).1, ?_, ?_⟩, hext _⟩
    · simp [Instr.mapUpdate, MapKept.run_getObj_map hb, pair_check, h2, MapKept.run_setObj_map _ hb, Result.andThen, go_sem]
    · intro y hy
      simp only [Array.toList_push, List.mem_append, List.mem_singleton] at hy
      rcases hy with hy | rfl
      · exact hks y hy
      · exact ⟨n, rfl⟩
    · intro k u
      rw [Array.toList_push]
      by_cases hkn : k = n
      · subst hkn
        show (if _ then _ else _) = _ ↔ _; rw [if_pos rfl]
        constructor
        · intro e; cases e; exact ⟨{ key := pairK k, val := v, born := clock }, by simp, rfl, rfl⟩
        · rintro ⟨e, he, hek, hev⟩
          rcases List.mem_append.1 he with he | he
          · exact absurd hek (h1 e he)
          · simp at he; subst he; simp at hev; rw [hev]
      · show (if _ then _ else _) = _ ↔ _; rw [if_neg hkn, hf]
        constructor
        · rintro ⟨e, he, h4⟩; exact ⟨e, by simp [he], h4⟩
        · rintro ⟨e, he, h4, h5⟩
          rcases List.mem_append.1 he with he | he
          · exact ⟨e, he, h4, h5⟩
          · simp at he; subst he; exact absurd (pairK_inj h4).symm hkn
  · exact absurd ((hf n x.val).2 ⟨x, h1, h2, rfl⟩) (by rw [hn]; simp)
end Go.Proofs.Ytmjgbkepngeckaa
namespace Go.Proofs.Ytmjgbkepngeckaa
open Go.ChangeShapes Go.WideShapes Go.ChangeAt Go.RowKit Go.Deep
set_option linter.unusedVariables false
set_option linter.unusedSimpArgs false

structure A6 where
  k : Int
  n : Int
  t : Int
  b : Int
  f : Int
  d : List UInt8
  fa : Option Addr
  fl : Nat
  fc : Nat
def A6.cells (x : A6) : List Value := actC x.k x.n x.t x.b x.f x.d (.slice x.fa x.fl x.fc)
theorem a6cells_len (x : A6) : x.cells.length = 7 := rfl
/-- Its fates read. -/
def A6.ok (w : World) (x : A6) : Prop := x.d.length ≤ maxLen ∧ ∃ fs : List Int, Rd w 1 (.slice x.fa x.fl x.fc) x.fl (fs.map (Value.int .i64))
def A6.few (x : A6) : Prop := x.d.length ≤ 200 ∧ x.fl ≤ 40
instance (x : A6) : Decidable x.few := inferInstanceAs (Decidable (_ ∧ _))

variable {H : Type} {enc : TypeId × Value → H} {w : World} {spare : Nat → Bool} {held : Bool}
theorem slice_of_trod6 {P : Program} {t e : TypeId} {m : Nat} {u : Value} {y : DataW H × List MemPlace} (ht : P.underlying t = some (.slice e)) (h : DataW.trod enc P w 0 spare held m t [u] = some y) :
    ∃ a n c, u = .slice a n c ∧ DataW.Trod enc P w 0 spare held t (.slice a n c) y.1 y.2 := by
  rcases DataW.trod_slice ht h with ⟨h0, _⟩ | ⟨a', len', cap', elems, rest, n, _, hcs, _⟩
  · simp at h0; subst h0
    exact ⟨none, 0, 0, rfl, m, h⟩
  · simp at hcs; subst hcs
    exact ⟨some a', len', cap', rfl, m, h⟩
set_option maxRecDepth 100000 in
theorem a6_of_trod {m : Nat} {cs : List Value} {y : DataW H × List MemPlace} (h : DataW.trod enc Try.prog w 0 spare held m 29 cs = some y) :
    ∃ p : A6, cs = p.cells ∧ p.ok w := by
  obtain ⟨xs, n, _, _, hl, hlen, hf⟩ := DataW.trod_struct Try.underlying29 h
  have e7 : Try.prog.cellsOf 29 = 7 := by kernel_rfl
  have ei : Try.prog.cellsOf 3 = 1 := by kernel_rfl
  have es : Try.prog.cellsOf 9 = 1 := by kernel_rfl
  have ef : Try.prog.cellsOf 27 = 1 := by kernel_rfl
  rw [e7] at hl
  match cs, hl, xs, hlen with
  | [u0, u1, u2, u3, u4, u5, u6], _, [y0, y1, y2, y3, y4, y5, y6], _ =>
    have h0 := hf 0 _ rfl
    have h1 := hf 1 _ rfl
    have h2 := hf 2 _ rfl
    have h3 := hf 3 _ rfl
    have h4 := hf 4 _ rfl
    have h5 := hf 5 _ rfl
    have h6 := hf 6 _ rfl
    simp only [ei, es, ef, List.drop_zero, List.take_succ_cons, List.take_zero, List.drop_succ_cons, List.getElem?_cons_zero, List.getElem?_cons_succ] at h0 h1 h2 h3 h4 h5 h6
    obtain ⟨n0, c0, _, w0⟩ := DataW.trod_int Try.underlying3 h0
    obtain ⟨n1, c1, _, w1⟩ := DataW.trod_int Try.underlying3 h1
    obtain ⟨n2, c2, _, w2⟩ := DataW.trod_int Try.underlying3 h2
    obtain ⟨n3, c3, _, w3⟩ := DataW.trod_int Try.underlying3 h3
    obtain ⟨n4, c4, _, w4⟩ := DataW.trod_int Try.underlying3 h4
    obtain ⟨⟨⟨d⟩⟩, c5, _, w5⟩ := DataW.trod_string Try.underlying9 h5
    obtain ⟨fa, fl, fc, c6, t6⟩ := slice_of_trod6 Try.underlying27 h6
    obtain ⟨fs, hfs, _⟩ := rd_ints Try.underlying27 Try.underlying70 (by kernel_rfl) t6
    cases c0; cases c1; cases c2; cases c3; cases c4; cases c5; cases c6
    exact ⟨⟨n0, n1, n2, n3, n4, d, fa, fl, fc⟩, rfl, w5, fs, hfs⟩
theorem rd_acts6 {a : Option Addr} {len cap : Nat} {d : DataW H} {ps : List MemPlace}
    (h : DataW.Trod enc Try.prog w 0 spare held 22 (.slice a len cap) d ps) :
    ∃ l : List A6, Rd w 7 (.slice a len cap) len (l.flatMap A6.cells) ∧ ∀ p ∈ l, p.ok w := by
  obtain ⟨xs, h1, h2⟩ := rd_of_trod Try.underlying22 (by kernel_rfl : Try.prog.cellsOf 29 = 7) h
  obtain ⟨l, h3, h4, h5⟩ := pieces A6.cells (A6.ok w) 7 len xs h1.1 (fun i hi => by
    obtain ⟨m, y, hy⟩ := h2 i hi
    exact a6_of_trod hy)
  exact ⟨l, h4 ▸ h1, h5⟩
/-- What Few answers. -/
def FewR (al : List A6) (len : Nat) (e : Ending) : Prop := ∃ r : Bool, e = .returned (.bool r) ∧ (r = true → len ≤ 30 ∧ ∀ p ∈ al, p.few)
set_option maxRecDepth 100000 in
set_option maxHeartbeats 3200000 in
theorem few6_any (al : List A6) (a : Option Addr) (len cap : Nat) (w0 : World) (hR : Rd w0 7 (.slice a len cap) len (al.flatMap A6.cells)) (hok : ∀ p ∈ al, p.d.length ≤ maxLen ∧ p.fl ≤ maxLen) (w : World) (hx0 : Ext [] w0 w) :
    Calls Try.prog 12 #[.slice a len cap] w fun e w' => FewR al len e ∧ Ext [] w w' := by
  have hl : al.length = len := by have := hR.len.2.2.2; rw [flatMap_len _ 7 a6cells_len] at this; omega
  have hlm : len ≤ 9223372036854775807 := by have := hR.len; unfold maxLen at this; omega
  have HR := Hid.of hR
  have HL := Hid.of hl
  have HOk := Hid.of hok
  have HX0 := Hid.of hx0
  clear hR hl hok hx0
  go_enter Try.func12, Try.ntmps12
  go_upto_region 2 with fail
  go_loopw [7] (fun u7 wr => ∃ (j : Nat), u7 = .int .i64 (j : Int) ∧ j ≤ len ∧ Hid (∀ p ∈ al.take j, p.few) ∧ Hid (Ext [] w wr)) (fun u7 _ => len - (intOf u7).toNat)
  case atStart => exact ⟨0, rfl, by omega, fun p hp => by simp at hp, Ext.refl _ _⟩
  case round =>
    obtain ⟨j, rfl, hj, hF, hX⟩ := hrel
    by_cases hjl : j < len
    · have hRr := HR.out.keep (HX0.out.then0 hX.out) (by simp)
      obtain ⟨g, off, rfl, hgw, hc⟩ := hRr.view (by omega)
      have hje : j < al.length := by have := HL.out; omega
      have cc : ∀ i : Nat, i < 7 → wr.cell? ⟨g, off + (j * 7 + i), none⟩ = al[j].cells[i]? := fun i hi => by
        have h1 := flatMap_get A6.cells 7 a6cells_len al j i hje hi
        have h2 : al[j].cells[i]? = some (al[j].cells[i]'(by rw [a6cells_len]; exact hi)) := List.getElem?_eq_getElem _
        rw [h2] at h1 ⊢
        exact hc _ _ h1
      have hokj := HOk.out al[j] (List.getElem_mem _)
      have hnx : (∀ p ∈ al.take j, p.few) → al[j].few → ∀ p ∈ al.take (j + 1), p.few := by
        intro h1 h2 p hp
        rw [List.take_add_one, List.getElem?_eq_getElem hje] at hp
        rcases List.mem_append.1 hp with h | h
        · exact h1 p h
        · simp at h; rw [h]; exact h2
      obtain ⟨x, hx⟩ : ∃ x, x = al[j] := ⟨_, rfl⟩
      rw [← hx] at cc hokj hnx
      have HNx := Hid.of hnx
      obtain ⟨xk, xn, xt, xb, xf, xd, fa, fl, fc⟩ := x
      obtain ⟨k1, k2⟩ := hokj
      simp only at k1 k2
      unfold maxLen at k1 k2
      have c0 : wr.cell? ⟨g, off + j * 7, none⟩ = some (.int .i64 xk) := cc 0 (by omega)
      have c1 : wr.cell? ⟨g, off + (j * 7 + 1), none⟩ = some (.int .i64 xn) := cc 1 (by omega)
      have c2 : wr.cell? ⟨g, off + (j * 7 + 2), none⟩ = some (.int .i64 xt) := cc 2 (by omega)
      have c3 : wr.cell? ⟨g, off + (j * 7 + 3), none⟩ = some (.int .i64 xb) := cc 3 (by omega)
      have c4 : wr.cell? ⟨g, off + (j * 7 + 4), none⟩ = some (.int .i64 xf) := cc 4 (by omega)
      have c5 : wr.cell? ⟨g, off + (j * 7 + 5), none⟩ = some (.string ⟨xd.toArray⟩) := cc 5 (by omega)
      have c6 : wr.cell? ⟨g, off + (j * 7 + 6), none⟩ = some (.slice fa fl fc) := cc 6 (by omega)
      rw [← Nat.add_assoc] at c1 c2 c3 c4 c5 c6
      clear hx cc hnx hc hgw hRr
      have HXn := Hid.of (hX.out.alloc (.cells #[.int .i64 xk, .int .i64 xn, .int .i64 xt, .int .i64 xb, .int .i64 xf, .string ⟨xd.toArray⟩, .slice fa fl fc] 29))
      by_cases b1 : 200 < (xd.length : Int)
      · clear HNx
        go_wp2
        go_ret
        exact ⟨⟨false, rfl, fun h => (by cases h)⟩, HXn.out⟩
      · by_cases b2 : 40 < (fl : Int)
        · clear HNx
          go_wp2
          go_ret
          exact ⟨⟨false, rfl, fun h => (by cases h)⟩, HXn.out⟩
        · have HF2 := Hid.of (HNx.out hF.out ⟨by show xd.length ≤ 200; omega, by show fl ≤ 40; omega⟩)
          clear HNx
          go_wp2
          exact ⟨⟨j + 1, by congr 1, by omega, HF2, HXn⟩, by simp [intOf]; omega⟩
    · obtain rfl : j = len := by omega
      go_wp2
      go_ret
      refine ⟨⟨_, rfl, fun h => ⟨?_, ?_⟩⟩, hX.out⟩
      · have := of_decide_eq_true h; omega
      · have := hF.out
        rwa [List.take_of_length_le (by have := HL.out; omega)] at this
end Go.Proofs.Ytmjgbkepngeckaa
namespace Go.Proofs.Ytmjgbkepngeckaa
open Go.RowKit
set_option linter.unusedVariables false
set_option linter.unusedSimpArgs false

set_option maxRecDepth 100000 in
set_option maxHeartbeats 12800000 in
theorem again_g {w0 w : World} {wq b q : Nat} {first : Int} {vm : Value} {all : List Ent} {O : List Nat} {a : Option Addr} {cap : Nat} {L : Lg} {V : Int → Sl} (f1 : 1 ≤ first) (f2 : first ≤ 1000000000)
    (hq0 : w0.heap.size ≤ wq ∧ wq < w.heap.size ∧ wq ∉ vblocks (.slice a all.length cap) ++ O) (hbw : Blk w wq 35 [.pointer (some ⟨b, 0, none⟩), .pointer (some ⟨q, 0, none⟩), .int .i64 first, .slice a all.length cap, vm])
    (hdx : DevX w0 w b 19 V (wq :: (vblocks (.slice a all.length cap) ++ O))) (hSo : Solid L V all) (e1 : L.base = 3) (e2 : L.size = 8) (e3 : L.first = first) (hR : Rd w 3 (.slice a all.length cap) all.length (all.flatMap Ent.cells))
    (fa : Option Addr) (fl fc : Nat) (fs : List Int) (hF : Rd w 1 (.slice fa fl fc) fl (fs.map (Value.int .i64))) :
    Calls Try.prog 25 #[.pointer (some ⟨wq, 0, none⟩), .slice fa fl fc] w fun e w' => e = .returned (.bool true) ∧ ∃ b' q', RSt w0 w' wq b' q' first (.slice none 0 0) all O a cap ∧ Kept (vblocks (.slice a all.length cap) ++ O) w w' := by
  have h8 : all.length ≤ 8 := by have := hSo.laid.len; omega
  obtain ⟨len, hlen⟩ : ∃ x, x = all.length := ⟨_, rfl⟩
  obtain ⟨O1, hO1⟩ : ∃ x, x = vblocks (.slice a all.length cap) ++ O := ⟨_, rfl⟩
  rw [← hO1] at hdx hq0 ⊢
  have hlt : ∀ z ∈ wq :: O1, z < w.heap.size := hdx.lt
  rw [← hlen] at h8
  have HLO := Hid.of (And.intro hlen hO1)
  have HR := Hid.of hR
  have HB := Hid.of hbw
  have HSo := Hid.of (And.intro hSo (And.intro e1 (And.intro e2 e3)))
  have hcr := crash_x hdx (by omega) fa fl fc fs hF (wq :: O1) hlt
  have hva : ∃ va, va = Value.slice a all.length cap := ⟨_, rfl⟩
  obtain ⟨va, hva⟩ := hva
  rw [← hva] at hbw HB
  have HVa := Hid.of hva
  have c0 : w.cell? ⟨wq, 0, none⟩ = some (.pointer (some ⟨b, 0, none⟩)) := Blk.c hbw 0
  clear hdx hR hSo e1 e2 e3 hlt hO1 hlen hva hbw hF
  go_enter Try.func25, Try.ntmps25
  go_upto_region 2 with (first
    | (go_at_call 24; (with_reducible refine hcr.mono ?_); rintro e w1 ⟨b2, rfl, hd1, hx1⟩; have HD1 := Hid.of hd1; have HX1 := Hid.of hx1; have hb1 := Blk.keep HB.out hx1 List.not_mem_nil; have c01 : w1.cell? ⟨wq, 0, none⟩ = some (.pointer (some ⟨b, 0, none⟩)) := Blk.c hb1 0; have f01 := Blk.f hb1 0; have HB1 := Hid.of hb1; clear hd1 hx1 hb1 hcr c0))
  obtain ⟨w2, hw2⟩ : ∃ W, W = w1.setCell ⟨wq, 0, none⟩ (.pointer (some ⟨b2, 0, none⟩)) := ⟨_, rfl⟩
  have hx2 : Ext [wq] w1 w2 := by rw [hw2]; exact (Ext.refl [wq] w1).setCell (.inl (by simp)) _
  have hb2 : Blk w2 wq 35 [.pointer (some ⟨b2, 0, none⟩), .pointer (some ⟨q, 0, none⟩), .int .i64 first, va, vm] := by rw [hw2]; exact Blk.set HB1.out 0 _
  have hd2 := HD1.out.other hx2 (by simp) hq0.1
  have cO : ∀ w', Ext [] w2 w' → Calls Try.prog 20 #[.pointer (some ⟨b2, 0, none⟩), .int .i64 3, .int .i64 8, .int .i64 first] w' fun e w3 => ∃ q', e = .returned (.tuple #[.pointer (some ⟨q', 0, none⟩), .int .i64 0]) ∧ AgMid w0 w2 w3 wq b2 q' first all O1 := by
    intro w' hx
    refine (open_s (hd2.keep hx) HSo.out.1 3 8 first HSo.out.2.1 HSo.out.2.2.1 HSo.out.2.2.2 (by omega) (by omega) (by omega) f1 f2).mono ?_
    rintro e w3 ⟨q', L', V', he, hl, hk, hS, g1, g2, g3⟩
    exact ⟨q', he, (Kept.of hx).trans hk, L', V', hl, hS, g1, g2, g3⟩
  have c0 := fun w' (hx : Ext [] w2 w') => Blk.c (Blk.keep hb2 hx List.not_mem_nil) 0
  have c2 := fun w' (hx : Ext [] w2 w') => Blk.c (Blk.keep hb2 hx List.not_mem_nil) 2
  simp only [List.getElem?_cons_zero, List.getElem?_cons_succ] at c0 c2
  have HB2 := Hid.of hb2
  have HK2 : Hid (Kept O1 w w2) := Hid.of ((Kept.of HX1.out).trans (fun z hz o ho => hx2.heap (fun hm => by simp at hm; exact hq0.2.2 (hm ▸ hz)) ho))
  have HCO := Hid.of cO
  rw [← hw2]
  clear hw2 hx2 hb2 hd2 c01 f01 cO HD1 HB1 HX1
  have cO := HCO.out
  refine wp_region_stepsm [18, 19, 20, 21, 22, 23, 24, 25, 26, 17, 27, 28, 5, 6] 8 (ag2Φ wq b2 first) (ag2ΦT wq b2 first) (fun v w => ∃ q', v = .tuple #[.pointer (some ⟨q', 0, none⟩), .int .i64 0] ∧ AgMid w0 w2 w wq b2 q' first all O1) (fun v n y => match n with | 9 => y = v | 10 => y = tupAt v 0 | 11 => y = tupAt v 1 | 12 => y = tupAt v 0 | 13 => y = tupAt v 1 | _ => True) (by kernel_rfl) (by kernel_rfl) (fun n y w w' h hx => h) (fun n y w' hn h => by unfold ag2Φ at h; unfold ag2ΦT; split at h <;> first | exact h | trivial) ?hst_2 ?hend_2
  case hst_2 =>
    refine ⟨?f0_2, ?f1_2, ?f2_2, ?f3_2, ?f4_2, ?f5_2, ?f6_2, ?f7_2, ?f8_2, ?f9_2, ?f10_2, ?f11_2, ?f12_2, ?f13_2, trivial⟩
    case f0_2 =>
      refine (if_pos (by decide)).mpr ?_
      intro g w' hx hd hb
      refine op_run rfl ?_
      generalize hA : mkAct _ _ g = A
      have h0 : A.tmps[0]?.getD undef = .pointer (some ⟨wq, 0, none⟩) := by rw [← hA]; exact mkAct_out2 _ _ _ _ _ rfl rfl
      refine step_val (v := .pointer (some ⟨wq, 0, none⟩)) (w' := w') ?_ ⟨_, rfl, Ext.refl _ _, rfl⟩
      simp [execOp, h0, Result.andThen, go_sem]
    case f1_2 =>
      refine (if_pos (by decide)).mpr ?_
      intro g w' hx hd hb
      refine op_run rfl ?_
      have e18 : g 18 = .pointer (some ⟨wq, 0, none⟩) := hd ⟨0, .data⟩ (by simp) rfl
      generalize hA : mkAct _ _ g = A
      have h18 : A.tmps[18]?.getD undef = .pointer (some ⟨wq, 0, none⟩) := by rw [← hA, mkAct_in2 _ _ _ _ rfl rfl]; exact e18
      refine step_val (v := .pointer (some ⟨wq, 0, none⟩)) (w' := w') ?_ ⟨_, rfl, Ext.refl _ _, rfl⟩
      simp [execOp, h18, Result.andThen, go_sem]
    case f2_2 =>
      refine (if_pos (by decide)).mpr ?_
      intro g w' hx hd hb
      refine op_run rfl ?_
      have e19 : g 19 = .pointer (some ⟨wq, 0, none⟩) := hd ⟨1, .data⟩ (by simp) rfl
      generalize hA : mkAct _ _ g = A
      have h19 : A.tmps[19]?.getD undef = .pointer (some ⟨wq, 0, none⟩) := by rw [← hA, mkAct_in2 _ _ _ _ rfl rfl]; exact e19
      refine step_val (v := .pointer (some ⟨wq, 0, none⟩)) (w' := w') ?_ ⟨_, rfl, Ext.refl _ _, rfl⟩
      simp [execOp, h19, Result.andThen, go_sem]
    case f3_2 =>
      refine (if_pos (by decide)).mpr ?_
      intro g w' hx hd hb
      refine op_run rfl ?_
      have e20 : g 20 = .pointer (some ⟨wq, 0, none⟩) := hd ⟨2, .data⟩ (by simp) rfl
      generalize hA : mkAct _ _ g = A
      have h20 : A.tmps[20]?.getD undef = .pointer (some ⟨wq, 0, none⟩) := by rw [← hA, mkAct_in2 _ _ _ _ rfl rfl]; exact e20
      have c := c0 w' hx
      refine step_val (v := .pointer (some ⟨b2, 0, none⟩)) (w' := w') ?_ ⟨_, rfl, Ext.refl _ _, rfl⟩
      simp [execOp, h20, c, Result.andThen, go_sem]
    case f4_2 =>
      refine (if_pos (by decide)).mpr ?_
      intro g w' hx hd hb
      refine op_run rfl ?_
      generalize hA : mkAct _ _ g = A
      have h0 : A.tmps[0]?.getD undef = .pointer (some ⟨wq, 0, none⟩) := by rw [← hA]; exact mkAct_out2 _ _ _ _ _ rfl rfl
      refine step_val (v := .pointer (some ⟨wq, 0, none⟩)) (w' := w') ?_ ⟨_, rfl, Ext.refl _ _, rfl⟩
      simp [execOp, h0, Result.andThen, go_sem]
    case f5_2 =>
      refine (if_pos (by decide)).mpr ?_
      intro g w' hx hd hb
      refine op_run rfl ?_
      have e22 : g 22 = .pointer (some ⟨wq, 0, none⟩) := hd ⟨4, .data⟩ (by simp) rfl
      generalize hA : mkAct _ _ g = A
      have h22 : A.tmps[22]?.getD undef = .pointer (some ⟨wq, 0, none⟩) := by rw [← hA, mkAct_in2 _ _ _ _ rfl rfl]; exact e22
      refine step_val (v := .pointer (some ⟨wq, 0, none⟩)) (w' := w') ?_ ⟨_, rfl, Ext.refl _ _, rfl⟩
      simp [execOp, h22, Result.andThen, go_sem]
    case f6_2 =>
      refine (if_pos (by decide)).mpr ?_
      intro g w' hx hd hb
      refine op_run rfl ?_
      have e23 : g 23 = .pointer (some ⟨wq, 0, none⟩) := hd ⟨5, .data⟩ (by simp) rfl
      generalize hA : mkAct _ _ g = A
      have h23 : A.tmps[23]?.getD undef = .pointer (some ⟨wq, 0, none⟩) := by rw [← hA, mkAct_in2 _ _ _ _ rfl rfl]; exact e23
      refine step_val (v := .pointer (some ⟨wq, 2, none⟩)) (w' := w') ?_ ⟨_, rfl, Ext.refl _ _, rfl⟩
      simp [execOp, h23, Result.andThen, go_sem]
    case f7_2 =>
      refine (if_pos (by decide)).mpr ?_
      intro g w' hx hd hb
      refine op_run rfl ?_
      have e24 : g 24 = .pointer (some ⟨wq, 2, none⟩) := hd ⟨6, .data⟩ (by simp) rfl
      generalize hA : mkAct _ _ g = A
      have h24 : A.tmps[24]?.getD undef = .pointer (some ⟨wq, 2, none⟩) := by rw [← hA, mkAct_in2 _ _ _ _ rfl rfl]; exact e24
      have c := c2 w' hx
      refine step_val (v := .int .i64 first) (w' := w') ?_ ⟨_, rfl, Ext.refl _ _, rfl⟩
      simp [execOp, h24, c, Result.andThen, go_sem]
    case f8_2 =>
      refine (if_neg (by decide)).mpr ((if_pos rfl).mpr ?_)
      intro g w' hx hd hb
      refine op_run rfl ?_
      have e21 : g 21 = .pointer (some ⟨b2, 0, none⟩) := hd 3 (by decide)
      have e25 : g 25 = .int .i64 first := hd 7 (by decide)
      generalize hA : mkAct _ _ g = A
      have h21 : A.tmps[21]?.getD undef = .pointer (some ⟨b2, 0, none⟩) := by rw [← hA, mkAct_in2 _ _ _ _ rfl rfl]; exact e21
      have h25 : A.tmps[25]?.getD undef = .int .i64 first := by rw [← hA, mkAct_in2 _ _ _ _ rfl rfl]; exact e25
      refine mid_k (fun K hK => ?_)
      go_simp
      refine (cO w' hx).mono ?_
      rintro e w2 ⟨q', rfl, hO2⟩
      exact hK (.tuple #[.pointer (some ⟨q', 0, none⟩), .int .i64 0]) w2 ⟨q', rfl, hO2⟩
    case f9_2 =>
      refine (if_neg (by decide)).mpr ((if_neg (by decide)).mpr ?_)
      intro g v w' hM hT hv hd
      refine op_run rfl ?_
      obtain ⟨q', rfl, -⟩ := hM
      have e26 := hv (Option.some_ne_none _)
      replace e26 : g 26 = _ := e26
      generalize hA : mkAct _ _ g = A
      have h26 : A.tmps[26]?.getD undef = g 26 := by rw [← hA]; exact mkAct_in2 _ _ _ _ rfl rfl
      rw [e26] at h26
      refine step_val (w' := w') ?_ ⟨_, rfl, rfl, rfl⟩
      simp [execOp, h26, tupAt, Result.andThen, go_sem]
    case f10_2 =>
      refine (if_neg (by decide)).mpr ((if_neg (by decide)).mpr ?_)
      intro g v w' hM hT hv hd
      refine op_run rfl ?_
      obtain ⟨q', rfl, -⟩ := hM
      have e17 := hd ⟨9, .data⟩ (by simp) rfl (by decide)
      replace e17 : g 17 = _ := e17
      generalize hA : mkAct _ _ g = A
      have h17 : A.tmps[17]?.getD undef = g 17 := by rw [← hA]; exact mkAct_in2 _ _ _ _ rfl rfl
      rw [e17] at h17
      refine step_val (w' := w') ?_ ⟨_, rfl, rfl, rfl⟩
      simp [execOp, h17, tupAt, Result.andThen, go_sem]
    case f11_2 =>
      refine (if_neg (by decide)).mpr ((if_neg (by decide)).mpr ?_)
      intro g v w' hM hT hv hd
      refine op_run rfl ?_
      obtain ⟨q', rfl, -⟩ := hM
      have e17 := hd ⟨9, .data⟩ (by simp) rfl (by decide)
      replace e17 : g 17 = _ := e17
      generalize hA : mkAct _ _ g = A
      have h17 : A.tmps[17]?.getD undef = g 17 := by rw [← hA]; exact mkAct_in2 _ _ _ _ rfl rfl
      rw [e17] at h17
      refine step_val (w' := w') ?_ ⟨_, rfl, rfl, rfl⟩
      simp [execOp, h17, tupAt, Result.andThen, go_sem]
    case f12_2 =>
      refine (if_neg (by decide)).mpr ((if_neg (by decide)).mpr ?_)
      intro g v w' hM hT hv hd
      refine op_run rfl ?_
      obtain ⟨q', rfl, -⟩ := hM
      have e27 := hd ⟨10, .data⟩ (by simp) rfl (by decide)
      replace e27 : g 27 = _ := e27
      generalize hA : mkAct _ _ g = A
      have h27 : A.tmps[27]?.getD undef = g 27 := by rw [← hA]; exact mkAct_in2 _ _ _ _ rfl rfl
      rw [e27] at h27
      refine step_val (w' := w') ?_ ⟨_, rfl, rfl, rfl⟩
      simp [execOp, h27, tupAt, Result.andThen, go_sem]
    case f13_2 =>
      refine (if_neg (by decide)).mpr ((if_neg (by decide)).mpr ?_)
      intro g v w' hM hT hv hd
      refine op_run rfl ?_
      obtain ⟨q', rfl, -⟩ := hM
      have e28 := hd ⟨11, .data⟩ (by simp) rfl (by decide)
      replace e28 : g 28 = _ := e28
      generalize hA : mkAct _ _ g = A
      have h28 : A.tmps[28]?.getD undef = g 28 := by rw [← hA]; exact mkAct_in2 _ _ _ _ rfl rfl
      rw [e28] at h28
      refine step_val (w' := w') ?_ ⟨_, rfl, rfl, rfl⟩
      simp [execOp, h28, tupAt, Result.andThen, go_sem]
  intro g v wn hM hT hv hd
  obtain ⟨q', rfl, hA⟩ := hM
  have e5 : g 5 = .pointer (some ⟨q', 0, none⟩) := hd 12 (by decide) (by decide)
  have e6 : g 6 = .int .i64 0 := hd 13 (by decide) (by decide)
  clear hd hv hT cO c0 c2 HCO
  unfold mkAct; simp only [List.zipIdx_cons, List.zipIdx_nil, List.map_cons, List.map_nil, Nat.zero_add, Nat.reduceAdd, List.contains_cons, List.contains_nil, Nat.reduceBEq, Bool.or_false, Bool.or_true, ↓reduceIte, Bool.false_eq_true]
  rw [e5, e6]
  clear e5 e6
  have hbn := hA.1.blk HB2.out (by simp)
  have d1 : wn.cell? ⟨wq, 1, none⟩ = some (.pointer (some ⟨q, 0, none⟩)) := Blk.c hbn 1
  have g1 := Blk.f hbn 1
  go_upto_region 6 with fail
  obtain ⟨w5, hw5⟩ : ∃ W, W = wn.setCell ⟨wq, 1, none⟩ (.pointer (some ⟨q', 0, none⟩)) := ⟨_, rfl⟩
  have hx5 : Ext [wq] wn w5 := by rw [hw5]; exact (Ext.refl [wq] wn).setCell (.inl (by simp)) _
  have hb5 : Blk w5 wq 35 [.pointer (some ⟨b2, 0, none⟩), .pointer (some ⟨q', 0, none⟩), .int .i64 first, va, vm] := by rw [hw5]; exact Blk.set hbn 1 _
  obtain ⟨hk3, L', V', hl3, hS3, g31, g32, g33⟩ := hA
  have hSt5 : St w0 w5 wq b2 q' first va vm all O1 := ⟨L', V', ⟨hb5, hl3.other hx5 (by simp) hq0.1, hq0.1, hq0.2.2⟩, hS3, g31, g32, g33⟩
  have hk5 : Kept O1 w w5 := (HK2.out.trans (hk3.sub (fun z hz => by simp [hz]))).trans (fun z hz o ho => hx5.heap (fun hm => by simp at hm; exact hq0.2.2 (hm ▸ hz)) ho)
  have hR5 := hk5.rd HR.out (fun z hz => by rw [HLO.out.2]; simp [hz])
  obtain ⟨q2, hq2⟩ : ∃ x, x = q' := ⟨_, rfl⟩
  rw [← hq2] at hSt5 hb5 hw5 ⊢
  have kL := fun w' (hx : Ext [] w5 w') => (hSt5.keep hx).last_c
  rw [← HLO.out.1] at kL
  have c2 := fun w' (hx : Ext [] w5 w') => Blk.c (Blk.keep hb5 hx List.not_mem_nil) 2
  simp only [List.getElem?_cons_zero, List.getElem?_cons_succ] at c2
  have HSt5 := Hid.of hSt5
  have HK5 := Hid.of hk5
  have HR5 := Hid.of hR5
  rw [← hw5]
  clear hw5 hx5 hb5 hk3 hl3 hS3 g31 g32 g33 hSt5 hk5 hR5 hq2 hbn d1 g1 HB2 HK2
  refine wp_region_stepsg [35, 36, 37, 38, 39, 40, 41, 42, 7] (fun n y _ => match n with | 0 => y = .pointer (some ⟨q2, 0, none⟩) | 1 => y = .int .i64 (first + (len : Int) - 1) | 2 => y = .pointer (some ⟨wq, 0, none⟩) | 3 => y = .pointer (some ⟨wq, 0, none⟩) | 4 => y = .pointer (some ⟨wq, 2, none⟩) | 5 => y = .int .i64 first | 6 => y = .int .i64 ((len : Int) - 1) | 7 => y = .int .i64 (len) | 8 => y = .int .i64 (len) | _ => True) (by kernel_rfl) (by kernel_rfl) (fun n y w1 w2 h hx => h) ?_ ?_
  · refine ⟨?f0_6, ?f1_6, ?f2_6, ?f3_6, ?f4_6, ?f5_6, ?f6_6, ?f7_6, ?f8_6, trivial⟩
    case f0_6 =>
      intro g w' hx hd
      refine op_run rfl ?_
      generalize hA : mkAct _ _ g = A
      have h5 : A.tmps[5]?.getD undef = .pointer (some ⟨q2, 0, none⟩) := by rw [← hA]; exact mkAct_out2 _ _ _ _ _ rfl rfl
      refine step_val (v := .pointer (some ⟨q2, 0, none⟩)) (w' := w') ?_ ⟨_, rfl, Ext.refl _ _, rfl⟩
      simp [execOp, h5, Result.andThen, go_sem]
    case f1_6 =>
      intro g w' hx hd
      refine op_run rfl ?_
      have e35 : g 35 = .pointer (some ⟨q2, 0, none⟩) := hd ⟨0, .data⟩ (by simp) rfl
      generalize hA : mkAct _ _ g = A
      have h35 : A.tmps[35]?.getD undef = .pointer (some ⟨q2, 0, none⟩) := by rw [← hA, mkAct_in2 _ _ _ _ rfl rfl]; exact e35
      refine float_k (fun K hK => ?_)
      go_simp
      refine (kL w' hx).mono ?_
      rintro e w2 ⟨rfl, hx2⟩
      exact hK (.int .i64 (first + (len : Int) - 1)) w2 hx2 rfl
    case f2_6 =>
      intro g w' hx hd
      refine op_run rfl ?_
      generalize hA : mkAct _ _ g = A
      have h0 : A.tmps[0]?.getD undef = .pointer (some ⟨wq, 0, none⟩) := by rw [← hA]; exact mkAct_out2 _ _ _ _ _ rfl rfl
      refine step_val (v := .pointer (some ⟨wq, 0, none⟩)) (w' := w') ?_ ⟨_, rfl, Ext.refl _ _, rfl⟩
      simp [execOp, h0, Result.andThen, go_sem]
    case f3_6 =>
      intro g w' hx hd
      refine op_run rfl ?_
      have e37 : g 37 = .pointer (some ⟨wq, 0, none⟩) := hd ⟨2, .data⟩ (by simp) rfl
      generalize hA : mkAct _ _ g = A
      have h37 : A.tmps[37]?.getD undef = .pointer (some ⟨wq, 0, none⟩) := by rw [← hA, mkAct_in2 _ _ _ _ rfl rfl]; exact e37
      refine step_val (v := .pointer (some ⟨wq, 0, none⟩)) (w' := w') ?_ ⟨_, rfl, Ext.refl _ _, rfl⟩
      simp [execOp, h37, Result.andThen, go_sem]
    case f4_6 =>
      intro g w' hx hd
      refine op_run rfl ?_
      have e38 : g 38 = .pointer (some ⟨wq, 0, none⟩) := hd ⟨3, .data⟩ (by simp) rfl
      generalize hA : mkAct _ _ g = A
      have h38 : A.tmps[38]?.getD undef = .pointer (some ⟨wq, 0, none⟩) := by rw [← hA, mkAct_in2 _ _ _ _ rfl rfl]; exact e38
      refine step_val (v := .pointer (some ⟨wq, 2, none⟩)) (w' := w') ?_ ⟨_, rfl, Ext.refl _ _, rfl⟩
      simp [execOp, h38, Result.andThen, go_sem]
    case f5_6 =>
      intro g w' hx hd
      refine op_run rfl ?_
      have e39 : g 39 = .pointer (some ⟨wq, 2, none⟩) := hd ⟨4, .data⟩ (by simp) rfl
      generalize hA : mkAct _ _ g = A
      have h39 : A.tmps[39]?.getD undef = .pointer (some ⟨wq, 2, none⟩) := by rw [← hA, mkAct_in2 _ _ _ _ rfl rfl]; exact e39
      have c := c2 w' hx
      refine step_val (v := .int .i64 first) (w' := w') ?_ ⟨_, rfl, Ext.refl _ _, rfl⟩
      simp [execOp, h39, c, Result.andThen, go_sem]
    case f6_6 =>
      intro g w' hx hd
      refine op_run rfl ?_
      have e36 : g 36 = .int .i64 (first + (len : Int) - 1) := hd ⟨1, .data⟩ (by simp) rfl
      have e40 : g 40 = .int .i64 first := hd ⟨5, .data⟩ (by simp) rfl
      generalize hA : mkAct _ _ g = A
      have h36 : A.tmps[36]?.getD undef = .int .i64 (first + (len : Int) - 1) := by rw [← hA, mkAct_in2 _ _ _ _ rfl rfl]; exact e36
      have h40 : A.tmps[40]?.getD undef = .int .i64 first := by rw [← hA, mkAct_in2 _ _ _ _ rfl rfl]; exact e40
      refine step_val (v := .int .i64 ((len : Int) - 1)) (w' := w') ?_ ⟨_, rfl, Ext.refl _ _, rfl⟩
      simp [execOp, h36, h40, Result.andThen, go_sem]
      rw [show first + (len : Int) - 1 - first = (len : Int) - 1 by omega]
      exact IntWalk.i64_in _ ⟨by omega, by omega⟩
    case f7_6 =>
      intro g w' hx hd
      refine op_run rfl ?_
      have e41 : g 41 = .int .i64 ((len : Int) - 1) := hd ⟨6, .data⟩ (by simp) rfl
      generalize hA : mkAct _ _ g = A
      have h41 : A.tmps[41]?.getD undef = .int .i64 ((len : Int) - 1) := by rw [← hA, mkAct_in2 _ _ _ _ rfl rfl]; exact e41
      refine step_val (v := .int .i64 (len)) (w' := w') ?_ ⟨_, rfl, Ext.refl _ _, rfl⟩
      simp [execOp, h41, Result.andThen, go_sem]
      (first | done | (rw [IntWalk.i64_in _ ⟨by omega, by omega⟩]))
    case f8_6 =>
      intro g w' hx hd
      refine op_run rfl ?_
      have e42 : g 42 = .int .i64 (len) := hd ⟨7, .data⟩ (by simp) rfl
      generalize hA : mkAct _ _ g = A
      have h42 : A.tmps[42]?.getD undef = .int .i64 (len) := by rw [← hA, mkAct_in2 _ _ _ _ rfl rfl]; exact e42
      refine step_val (v := .int .i64 (len)) (w' := w') ?_ ⟨_, rfl, Ext.refl _ _, rfl⟩
      simp [execOp, h42, Result.andThen, go_sem]
  intro g wn hxn hd
  have e7 : g 7 = .int .i64 (len) := hd 8 (by decide)
  clear hd c2 kL
  unfold mkAct; simp only [List.zipIdx_cons, List.zipIdx_nil, List.map_cons, List.map_nil, Nat.zero_add, Nat.reduceAdd, List.contains_cons, List.contains_nil, Nat.reduceBEq, Bool.or_false, Bool.or_true, ↓reduceIte, Bool.false_eq_true]
  rw [e7]
  clear e7
  have HSt6 := Hid.of (HSt5.out.keep hxn)
  have HK6 := Hid.of (HK5.out.trans (Kept.of hxn))
  have HR6 := Hid.of (HR5.out.keep hxn (by simp))
  have c3 : wn.cell? ⟨wq, 3, none⟩ = some (.slice a len cap) := by rw [Blk.c HSt6.out.blk 3, HVa.out, ← HLO.out.1]; rfl
  have c4 : wn.cell? ⟨wq, 4, none⟩ = some vm := Blk.c HSt6.out.blk 4
  have f4 := Blk.f HSt6.out.blk 4
  have hfin := HSt6.out.setMay (.slice none 0 0)
  have hRf : RSt w0 (wn.setCell ⟨wq, 4, none⟩ (.slice none 0 0)) wq b2 q2 first (.slice none 0 0) all O a cap := by
    refine ⟨?_, hfin.2.rd HR6.out (fun z hz => by rw [HLO.out.2]; simp [hz])⟩
    rw [← HLO.out.2, ← HVa.out]
    exact hfin.1
  have cS := hRf.shows
  have HRf := Hid.of hRf
  have HKf := Hid.of (HK6.out.trans hfin.2)
  clear hRf hfin hxn HSt5 HK5 HR5
  go_wp2_with (first
    | (go_at_call 23; (with_reducible refine cS.mono ?_); rintro e w7 ⟨rfl, hx7⟩; have HS7 := Hid.of (HRf.out.keep hx7); have HK7 := Hid.of (HKf.out.trans (Kept.of hx7)); clear hx7 cS))
  go_ret
  exact ⟨rfl, b2, q2, HS7.out, HK7.out⟩
end Go.Proofs.Ytmjgbkepngeckaa
namespace Go.Proofs.Ytmjgbkepngeckaa
open Go.RowKit
set_option linter.unusedVariables false
set_option linter.unusedSimpArgs false
attribute [local go_sem] i64_and255 i64_and3

/-- What of an entry is damaged, round by round: first its block, then its mark's. -/
def hV (L : Lg) (V : Int → Sl) (i : Int) (en mk : Bool) (j : Nat) : Int → Sl :=
  let V1 := if en = true ∧ 1 ≤ j then setF V (L.a i) badS else V
  if mk = true ∧ 2 ≤ j then setF V1 (L.b i) badS else V1
theorem hV_zero (L : Lg) (V : Int → Sl) (i : Int) (en mk : Bool) : hV L V i en mk 0 = V := by
  simp [hV]
theorem hV_one (L : Lg) (V : Int → Sl) (i : Int) (en mk : Bool) : hV L V i en mk 1 = if en = true then setF V (L.a i) badS else V := by
  simp [hV]
theorem hV_two (L : Lg) (V : Int → Sl) (i : Int) (en mk : Bool) : hV L V i en mk 2 = if mk = true then setF (if en = true then setF V (L.a i) badS else V) (L.b i) badS else (if en = true then setF V (L.a i) badS else V) := by
  simp [hV]
def enB (W : Int) : Bool := decide (W % 4 ≠ 1)
def mkB (W : Int) : Bool := decide (W % 4 = 1 ∨ W % 4 = 2)
set_option maxRecDepth 100000 in
set_option maxHeartbeats 12800000 in
theorem harm_c {w0 w : World} {q b : Nat} {L : Lg} {V : Int → Sl} {O : List Nat} (h : LgX w0 w q b L 19 V O) (h3 : L.base = 3) (h8 : L.size = 8) (X W T : Int) (c : UInt8) (hT : -9223372036854775808 ≤ T ∧ T ≤ 9223372036854775807) (first : Int) (n : Nat) (hf : 1 ≤ first ∧ first ≤ 1000000) (hn : 1 ≤ n ∧ n ≤ 8) (i : Int) (hi : first + X % 256 % (n : Int) = i) (ha : (V (L.a i)).1 = 1) (hb : (V (L.b i)).1 = 1) :
    Calls Try.prog 16 #[.agg #[.int .i64 X, .int .i64 W, .int .i64 T, .int .u8 (c.toNat : Int)], .pointer (some ⟨b, 0, none⟩), .int .i64 first, .int .i64 (n : Int)] w fun e w' => e = .returned (.tuple #[.int .i64 i, .bool (enB W), .bool (mkB W)]) ∧ LgX w0 w' q b L 19 (hV L V i (enB W) (mkB W) 2) O ∧ Kept O w w' := by
  have hW4 : W % 4 = 0 ∨ W % 4 = 1 ∨ W % 4 = 2 ∨ W % 4 = 3 := by omega
  have hX : 0 ≤ X % 256 % (n : Int) ∧ X % 256 % (n : Int) < n := ⟨Int.emod_nonneg _ (by omega), Int.emod_lt_of_pos _ (by omega)⟩
  have hi0 : 1 ≤ i ∧ i ≤ 1000008 := by omega
  obtain ⟨Pa, hPa⟩ : ∃ P, P = 3 + i % 8 := ⟨_, rfl⟩
  have hLa : L.a i = Pa := by unfold Lg.a; rw [h3, h8, hPa]
  have hLb : L.b i = Pa + 8 := by unfold Lg.b; rw [h3, h8, hPa]
  have hP0 : 3 ≤ Pa ∧ Pa ≤ 10 := by omega
  have htm : (3 : Int) + i.tmod 8 = Pa := by rw [hPa, Int.tmod_eq_emod_of_nonneg (by omega)]
  obtain ⟨en, hen⟩ : ∃ e, e = enB W := ⟨_, rfl⟩
  obtain ⟨mk, hmk⟩ : ∃ e, e = mkB W := ⟨_, rfl⟩
  have HW : Hid ((W % 4 = 0 ∧ en = true ∧ mk = false) ∨ (W % 4 = 1 ∧ en = false ∧ mk = true) ∨ (W % 4 = 2 ∧ en = true ∧ mk = true) ∨ (W % 4 = 3 ∧ en = true ∧ mk = false)) := Hid.of (by
    rw [hen, hmk]
    unfold enB mkB
    rcases hW4 with e | e | e | e <;> rw [e] <;> decide)
  rw [← hen, ← hmk]
  obtain ⟨V1, hV1⟩ : ∃ V', V' = hV L V i en mk 1 := ⟨_, rfl⟩
  obtain ⟨V2, hV2⟩ : ∃ V', V' = hV L V i en mk 2 := ⟨_, rfl⟩
  rw [← hV2]
  have H1 : Hid (V1 = if en = true then setF V Pa (2, Rc.zero) else V) := Hid.of (by rw [hV1, hV_one, hLa]; rfl)
  have H2 : Hid (V2 = if mk = true then setF V1 (Pa + 8) (2, Rc.zero) else V1) := Hid.of (by rw [hV2, hV_two, ← hV_one L V i en mk, ← hV1, hLb]; rfl)
  rw [hLa] at ha
  rw [hLb] at hb
  have hb1 : (V1 (Pa + 8)).1 = 1 := by
    rw [H1.out]
    split
    · rw [setF_other _ _ _ _ (by omega)]; exact hb
    · exact hb
  have HA := Hid.of ha
  have HB1 := Hid.of hb1
  have HL := Hid.of h
  clear h hen hmk hLa hLb hV1 hV2 ha hb hb1 hW4
  go_enter Try.func16, Try.ntmps16
  obtain ⟨E, hE⟩ : ∃ E, E = w.heap.size := ⟨_, rfl⟩
  obtain ⟨w1, hw1⟩ : ∃ w', w' = w.alloc (.cells #[.int .i64 X, .int .i64 W, .int .i64 T, .int .u8 (c.toNat : Int)] 48) := ⟨_, rfl⟩
  have hbE : Blk w1 E 48 [.int .i64 X, .int .i64 W, .int .i64 T, .int .u8 (c.toNat : Int)] := by rw [hw1]; exact Blk.newg hE.symm
  have hx1 : Ext [] w w1 := by rw [hw1]; exact (Ext.refl _ _).alloc _
  have HL1 := Hid.of (HL.out.add hx1 E (by omega) (Blk.lt hbE))
  have HK1 : Hid (Kept O w w1) := Hid.of (Kept.of hx1)
  have HE := Hid.of hbE
  go_upto_region 1 with fail
  rw [← hE, ← hw1]
  clear hE hw1 hbE hx1 HL
  have e0 : w1.cell? ⟨E, 0, none⟩ = some (.int .i64 X) := Blk.c HE.out 0
  have e1 : w1.cell? ⟨E, 1, none⟩ = some (.int .i64 W) := Blk.c HE.out 1
  have hn0 : 0 < (n : Int) := by omega
  go_upto_region 5 with fail
  rw [← hPa]
  clear hPa htm
  go_cut [13] (fun u wx => u = .bool en ∧ wx = w1)
  case first =>
    rcases HW.out with ⟨e, rfl, rfl⟩ | ⟨e, rfl, rfl⟩ | ⟨e, rfl, rfl⟩ | ⟨e, rfl, rfl⟩
    all_goals go_wp2_with fail
    all_goals go_meet
    all_goals exact ⟨rfl, rfl⟩
  case rest =>
    obtain ⟨rfl, hwc⟩ := hcut
    rw [hwc]
    clear hwc
    go_upto_region 6 with fail
    go_cut [14] (fun u wx => u = .bool mk ∧ wx = w1)
    case first =>
      rcases HW.out with ⟨e, rfl, rfl⟩ | ⟨e, rfl, rfl⟩ | ⟨e, rfl, rfl⟩ | ⟨e, rfl, rfl⟩
      all_goals go_wp2_with fail
      all_goals go_meet
      all_goals exact ⟨rfl, rfl⟩
    case rest =>
      obtain ⟨rfl, hwc⟩ := hcut
      rw [hwc]
      clear hwc e0 e1
      obtain ⟨z, hz⟩ : ∃ z, z = w1.heap.size := ⟨_, rfl⟩
      obtain ⟨w2, hw2⟩ : ∃ w', w' = w1.alloc (.cells #[.bool en, .bool mk] 4) := ⟨_, rfl⟩
      have hbz : Blk w2 z 4 [.bool en, .bool mk] := by rw [hw2]; exact Blk.newg hz.symm
      have hx2 : Ext [] w1 w2 := by rw [hw2]; exact (Ext.refl _ _).alloc _
      have HL2 := Hid.of (HL1.out.add hx2 z (by omega) (Blk.lt hbz))
      have HK2 : Hid (Kept O w w2) := Hid.of (HK1.out.trans (Kept.of hx2))
      have HE2 := Hid.of (Blk.keep HE.out hx2 (by simp))
      have HZ2 := Hid.of hbz
      go_upto_region 8 with fail
      rw [← hz, ← hw2]
      clear hz hw2 hbz hx2 HL1 HK1 HE HW
      go_loopw [48] (fun u48 wr => ∃ j : Nat, u48 = .int .i64 (j : Int) ∧ j ≤ 2 ∧ Hid (LgX w0 wr q b L 19 (if j = 0 then V else if j = 1 then V1 else V2) (z :: E :: O)) ∧ Hid (Kept (z :: E :: O) w2 wr)) (fun u48 _ => 2 - (intOf u48).toNat)
      case atStart => exact ⟨0, rfl, by omega, HL2, Hid.of (Kept.refl _ _)⟩
      case round =>
        obtain ⟨j, rfl, hj, hL, hK⟩ := hrel
        have hz0 : wr.cell? ⟨z, 0, none⟩ = some (.bool en) := Blk.c (hK.out.blk HZ2.out (by simp)) 0
        have hz1 : wr.cell? ⟨z, 1, none⟩ = some (.bool mk) := Blk.c (hK.out.blk HZ2.out (by simp)) 1
        have he2 : wr.cell? ⟨E, 2, none⟩ = some (.int .i64 T) := Blk.c (hK.out.blk HE2.out (by simp)) 2
        have he3 : wr.cell? ⟨E, 3, none⟩ = some (.int .u8 (c.toNat : Int)) := Blk.c (hK.out.blk HE2.out (by simp)) 3
        rcases (by omega : j = 0 ∨ j = 1 ∨ j = 2) with rfl | rfl | rfl
        · have hL := Hid.of (show LgX w0 wr q b L 19 V (z :: E :: O) from hL.out)
          cases en with
          | false =>
            have hn1 : V1 = V := H1.out
            go_wp2
            go_roundw
            case rel => exact ⟨1, by go_num, by omega, Hid.of (by rw [if_neg (by decide), if_pos rfl, hn1]; exact hL.out), hK⟩
            case measure => simp [intOf]
          | true =>
            have hn1 : V1 = setF V Pa (2, Rc.zero) := H1.out
            by_cases hc0 : c = 0
            · have hcn : ((c.toNat : Int) == 0) = true := by rw [hc0]; rfl
              clear hc0
              go_wp2_with fail
              refine (hL.out.lose Pa (by omega) (by omega)).mono ?_
              rintro e w5 ⟨rfl, h5, hk5⟩
              have H5 := Hid.of h5
              have HK5 := Hid.of (hK.out.trans hk5)
              clear h5 hk5 hz0 hz1 he2 he3
              go_wp2
              go_roundw
              case rel => exact ⟨1, by go_num, by omega, Hid.of (by rw [if_neg (by decide), if_pos rfl, hn1]; exact H5.out), HK5⟩
              case measure => simp [intOf]
            · have hcn : ((c.toNat : Int) == 0) = false := beq_false_of_ne (fun h => hc0 (UInt8.toNat_inj.1 (by show c.toNat = 0; omega)))
              have HC0 := Hid.of hc0
              clear hc0
              go_wp2_with fail
              refine (hL.out.flip Pa T c (by omega) (by omega) HA.out HC0.out hT).mono ?_
              rintro e w5 ⟨rfl, h5, hk5⟩
              have H5 := Hid.of h5
              have HK5 := Hid.of (hK.out.trans hk5)
              clear h5 hk5 hz0 hz1 he2 he3
              go_wp2
              go_roundw
              case rel => exact ⟨1, by go_num, by omega, Hid.of (by rw [if_neg (by decide), if_pos rfl, hn1]; exact H5.out), HK5⟩
              case measure => simp [intOf]
        · have hL := Hid.of (show LgX w0 wr q b L 19 V1 (z :: E :: O) from hL.out)
          cases mk with
          | false =>
            have hn1 : V2 = V1 := H2.out
            go_wp2
            go_roundw
            case rel => exact ⟨2, by go_num, by omega, Hid.of (by rw [if_neg (by decide), if_neg (by decide), hn1]; exact hL.out), hK⟩
            case measure => simp [intOf]
          | true =>
            have hn1 : V2 = setF V1 (Pa + 8) (2, Rc.zero) := H2.out
            by_cases hc0 : c = 0
            · have hcn : ((c.toNat : Int) == 0) = true := by rw [hc0]; rfl
              clear hc0
              go_wp2_with fail
              refine (hL.out.lose (Pa + 8) (by omega) (by omega)).mono ?_
              rintro e w5 ⟨rfl, h5, hk5⟩
              have H5 := Hid.of h5
              have HK5 := Hid.of (hK.out.trans hk5)
              clear h5 hk5 hz0 hz1 he2 he3
              go_wp2
              go_roundw
              case rel => exact ⟨2, by go_num, by omega, Hid.of (by rw [if_neg (by decide), if_neg (by decide), hn1]; exact H5.out), HK5⟩
              case measure => simp [intOf]
            · have hcn : ((c.toNat : Int) == 0) = false := beq_false_of_ne (fun h => hc0 (UInt8.toNat_inj.1 (by show c.toNat = 0; omega)))
              have HC0 := Hid.of hc0
              clear hc0
              go_wp2_with fail
              refine (hL.out.flip (Pa + 8) T c (by omega) (by omega) HB1.out HC0.out hT).mono ?_
              rintro e w5 ⟨rfl, h5, hk5⟩
              have H5 := Hid.of h5
              have HK5 := Hid.of (hK.out.trans hk5)
              clear h5 hk5 hz0 hz1 he2 he3
              go_wp2
              go_roundw
              case rel => exact ⟨2, by go_num, by omega, Hid.of (by rw [if_neg (by decide), if_neg (by decide), hn1]; exact H5.out), HK5⟩
              case measure => simp [intOf]
        · have hL := Hid.of (show LgX w0 wr q b L 19 V2 (z :: E :: O) from hL.out)
          have HKe : Hid (Kept O w wr) := Hid.of (HK2.out.trans (hK.out.sub (fun y hy => by simp [hy])))
          clear hz0 hz1 he2 he3
          go_wp2
          go_ret3
          exact ⟨rfl, hL.out.sub (fun y hy => by simp [hy]), HKe.out⟩
end Go.Proofs.Ytmjgbkepngeckaa
namespace Go.Proofs.Ytmjgbkepngeckaa
open Go.ChangeShapes Go.WideShapes Go.ChangeAt Go.RowKit Go.Deep
set_option linter.unusedVariables false
set_option linter.unusedSimpArgs false

/-- What the law's map says of an entry. -/
def badv (e m : Bool) : Int := if e = true then (if m = true then 2 else 1) else 0
def harmIf (f : Int → Bool) (c : Bool) (i : Int) : Int → Bool := if c = true then orIf f i else f
theorem LaidE.harm {L : Lg} {V : Int → Sl} {all : List Ent} {eb mb : Int → Bool} (h : LaidE L V all eb mb) (hab : ∀ i, L.a i < L.base + L.size ∧ L.base + L.size ≤ L.b i) {j : Nat} (hj : j < all.length) (en mk : Bool) :
    LaidE L (hV L V (L.first + j) en mk 2) all (harmIf eb en (L.first + j)) (harmIf mb mk (L.first + j)) := by
  rw [hV_two]
  unfold harmIf
  cases en with
  | false =>
    cases mk with
    | false => exact h
    | true => exact h.loseM hab hj
  | true =>
    cases mk with
    | false => exact h.loseE hab hj
    | true => exact (h.loseE hab hj).loseM hab hj
theorem Open9.harm {L : Lg} {V : Int → Sl} {N : Nat} (h : Open9 L V N) (hs : 0 < L.size) (hab : ∀ i, L.a i < L.base + L.size ∧ L.base + L.size ≤ L.b i) {j : Nat} (hj : j < N) (en mk : Bool) : Open9 L (hV L V (L.first + j) en mk 2) N := by
  rw [hV_two]
  cases en with
  | false =>
    cases mk with
    | false => exact h
    | true => exact h.loseM hs hab hj badS
  | true =>
    cases mk with
    | false => exact h.loseE hs hab hj badS
    | true => exact (h.loseE hs hab hj badS).loseM hs hab hj badS
theorem harmIf_other (f : Int → Bool) (c : Bool) (i x : Int) (h : x ≠ i) : harmIf f c i x = f x := by
  unfold harmIf orIf
  cases c with
  | false => rfl
  | true => simp [h]
theorem harmIf_at (f : Int → Bool) (c : Bool) (i : Int) (h : f i = false) : harmIf f c i i = c := by
  unfold harmIf orIf
  cases c with
  | false => exact h
  | true => simp
/-- An entry mended. -/
theorem Tells.mend {L : Lg} {V : Int → Sl} {all : List Ent} {eb mb kn : Int → Bool} {n : Int} (h : Tells L V all eb mb kn) (hok : LgOk L n) (k : Nat) (hk : k < all.length) :
    Tells (L.mend all[k]) (putV2 L [all[k]] V) all (setF eb (L.first + k) false) (setF mb (L.first + k) false) (setF kn (L.first + k) true) := by
  have hi := h.laid.idx k hk
  have hl := h.laid.len
  have hp := h.laid.pos
  have e1 : (all[k].idx - L.first).toNat = k := by rw [hi]; omega
  obtain ⟨g1, g2⟩ := putV2_in (L := L) (es := [all[k]]) (V := V) hok 0 (by simp) (fun i hi2 _ => by simp at hi2; exact hi2)
  simp only [List.getElem_cons_zero] at g1 g2
  rw [hi] at g1 g2
  refine ⟨⟨hp, hl, h.laid.idx, fun j hj => ?_⟩, ?_, fun j hj => ?_, fun i => ?_, fun i hi2 => ?_⟩
  · show putV2 L [all[k]] V (L.a (L.first + j)) = _ ∧ putV2 L [all[k]] V (L.b (L.first + j)) = _
    show putV2 L [all[k]] V (L.a (L.first + j)) = (if setF eb (L.first + k) false (L.first + j) = true then badS else entS all[j]) ∧ putV2 L [all[k]] V (L.b (L.first + j)) = (if setF mb (L.first + k) false (L.first + j) = true then badS else markS all[j])
    by_cases e : j = k
    · subst e
      rw [setF_same, setF_same, if_neg (by decide), if_neg (by decide)]
      exact ⟨g1, g2⟩
    · rw [setF_other _ _ _ _ (show L.first + (j : Int) ≠ L.first + k by omega), setF_other _ _ _ _ (show L.first + (j : Int) ≠ L.first + k by omega)]
      obtain ⟨o1, o2⟩ := putV2_out (L := L) (es := [all[k]]) (V := V) hok (L.first + j) (fun e he => by
        simp at he
        subst he
        rw [hi]
        rcases Nat.lt_or_gt_of_ne e with h3 | h3
        · exact fun e2 => Lg.a_ne hp (show L.first + (j : Int) < L.first + k by omega) (by omega) e2.symm
        · exact fun e2 => Lg.a_ne hp (show L.first + (k : Int) < L.first + j by omega) (by omega) e2)
      rw [o1, o2]
      exact h.laid.there j hj
  · show (L.terms.set _ _).length = _
    rw [List.length_set, h.len]
  · show (L.terms.set (all[k].idx - L.first).toNat all[k].term)[j]? = some (if setF kn (L.first + k) true (L.first + j) = true then all[j].term else 0)
    rw [e1]
    by_cases e : j = k
    · subst e
      rw [List.getElem?_set_self (by rw [h.len]; exact hj), setF_same, if_pos rfl]
    · rw [List.getElem?_set_ne (fun e2 => e e2.symm), setF_other _ _ _ _ (show L.first + (j : Int) ≠ L.first + k by omega)]
      exact h.term j hj
  · show setF L.hurt all[k].idx false i = decide (L.first ≤ i ∧ i < L.first + all.length ∧ setF eb (L.first + k) false i = true)
    rw [hi]
    by_cases e : i = L.first + k
    · subst e
      rw [setF_same, setF_same]
      simp
    · rw [setF_other _ _ _ _ e, setF_other _ _ _ _ e]
      exact h.hurt i
  · by_cases e : i = L.first + k
    · rw [e, setF_same]
    · rw [setF_other _ _ _ _ e] at hi2 ⊢
      exact h.known i hi2
theorem Open9.mend {L : Lg} {V : Int → Sl} {N : Nat} {n : Int} (h : Open9 L V N) (hok : LgOk L n) (hp : 0 < L.size) {x : Ent} {k : Nat} (hk : k < N) (hi : x.idx = L.first + k) : Open9 (L.mend x) (putV2 L [x] V) N := by
  intro i h1 h2
  have h1' : L.first + (N : Int) ≤ i := h1
  have h2' : i < L.first + L.size := h2
  obtain ⟨o1, o2⟩ := putV2_out (L := L) (es := [x]) (V := V) hok i (fun e he => by
    simp at he
    subst he
    rw [hi]
    exact fun e2 => Lg.a_ne hp (show L.first + (k : Int) < i by omega) (by omega) e2)
  show Free i (putV2 L [x] V (L.a i)) ∧ Free i (putV2 L [x] V (L.b i))
  rw [o1, o2]
  exact h i h1' h2'
theorem Tells.solid {L : Lg} {V : Int → Sl} {all : List Ent} {eb mb kn : Int → Bool} (h : Tells L V all eb mb kn) (ho : Open9 L V all.length) (hx : ∀ k : Nat, k < all.length → eb (L.first + k) = false ∧ mb (L.first + k) = false) : Solid L V all := by
  refine ⟨⟨h.laid.pos, h.laid.len, h.laid.idx, fun k hk => ?_⟩, ho, ?_, fun i => ?_⟩
  · obtain ⟨g1, g2⟩ := h.laid.there k hk
    rw [(hx k hk).1] at g1
    rw [(hx k hk).2] at g2
    exact ⟨g1, g2⟩
  · apply List.ext_getElem?
    intro k
    by_cases hk : k < all.length
    · rw [h.term k hk, h.known _ (hx k hk).1, if_pos rfl, List.getElem?_map, List.getElem?_eq_getElem hk]
      rfl
    · rw [List.getElem?_eq_none (by rw [h.len]; omega), List.getElem?_eq_none (by rw [List.length_map]; omega)]
  · rw [h.hurt i, decide_eq_false_iff_not]
    rintro ⟨h1, h2, h3⟩
    have := (hx (i - L.first).toNat (by omega)).1
    rw [show L.first + ((i - L.first).toNat : Int) = i by omega] at this
    rw [this] at h3
    cases h3
/-- While entries are mended one by one: which are still damaged. -/
structure Lp (eb0 mb0 : Int → Bool) (first : Int) (len k : Nat) (eb mb kn : Int → Bool) : Prop where
  done : ∀ j : Nat, j < k → j < len → eb (first + j) = false ∧ mb (first + j) = false
  left : ∀ j : Nat, k ≤ j → j < len → eb (first + j) = eb0 (first + j) ∧ mb (first + j) = (mb0 (first + j) && eb0 (first + j)) ∧ kn (first + j) = !(eb0 (first + j) && mb0 (first + j))
theorem Lp.start (eb0 mb0 : Int → Bool) (first : Int) (len : Nat) : Lp eb0 mb0 first len 0 eb0 (fun i => mb0 i && eb0 i) (fun i => !(eb0 i && mb0 i)) :=
  ⟨fun j hj => by omega, fun j _ _ => ⟨rfl, rfl, rfl⟩⟩
theorem Lp.good {eb0 mb0 : Int → Bool} {first : Int} {len k : Nat} {eb mb kn : Int → Bool} (h : Lp eb0 mb0 first len k eb mb kn) (hk : k < len) (he : eb0 (first + k) = false) : Lp eb0 mb0 first len (k + 1) eb mb kn := by
  obtain ⟨h1, h2, h3⟩ := h.left k (Nat.le_refl _) hk
  refine ⟨fun j hj hl => ?_, fun j hj hl => h.left j (by omega) hl⟩
  by_cases e : j = k
  · subst e
    rw [h1, h2, he]
    simp
  · exact h.done j (by omega) hl
theorem Lp.mended {eb0 mb0 : Int → Bool} {first : Int} {len k : Nat} {eb mb kn : Int → Bool} (h : Lp eb0 mb0 first len k eb mb kn) : Lp eb0 mb0 first len (k + 1) (setF eb (first + k) false) (setF mb (first + k) false) (setF kn (first + k) true) := by
  refine ⟨fun j hj hl => ?_, fun j hj hl => ?_⟩
  · by_cases e : j = k
    · subst e
      rw [setF_same, setF_same]
      exact ⟨rfl, rfl⟩
    · have hne : first + (j : Int) ≠ first + k := by omega
      rw [setF_other _ _ _ _ hne, setF_other _ _ _ _ hne]
      exact h.done j (by omega) hl
  · have hne : first + (j : Int) ≠ first + k := by omega
    rw [setF_other _ _ _ _ hne, setF_other _ _ _ _ hne, setF_other _ _ _ _ hne]
    exact h.left j (by omega) hl
/-- The first of the damaged, so far. -/
theorem LeastBad.next {first : Int} {k : Nat} {eb : Int → Bool} {r : Int} (h : LeastBad first k eb r) (hf : 1 ≤ first) : LeastBad first ((k + 1 : Nat) : Int) eb (if eb (first + k) = true ∧ r = 0 then first + k else r) := by
  by_cases hc : eb (first + k) = true ∧ r = 0
  · rw [if_pos hc]
    right
    obtain ⟨h1, h2⟩ := hc
    refine ⟨by omega, by omega, h1, fun i h3 h4 => ?_⟩
    rcases h with ⟨-, h5⟩ | ⟨h5, -⟩
    · exact h5 i h3 h4
    · omega
  · rw [if_neg hc]
    rcases h with ⟨h1, h2⟩ | ⟨h1, h2, h3, h4⟩
    · left
      refine ⟨h1, fun i h3 h4 => ?_⟩
      by_cases e : i = first + k
      · rw [e]
        cases he : eb (first + k) with
        | false => rfl
        | true => exact absurd ⟨he, h1⟩ hc
      · exact h2 i h3 (by omega)
    · exact .inr ⟨h1, by omega, h3, h4⟩

/-- What stands in memory: the law's world, its entries, the log ql, the map of damage. -/
structure HmS (w0 : World) (wq b q ql : Nat) (first : Int) (a : Option Addr) (M cap : Nat) (vm : Value) (all : List Ent) (bv : Int → Int) (mB : Nat) (O : List Nat) (L : Lg) (V : Int → Sl) (w : World) : Prop where
  blk : Blk w wq 35 [.pointer (some ⟨b, 0, none⟩), .pointer (some ⟨q, 0, none⟩), .int .i64 first, .slice a M cap, vm]
  log : LgX w0 w ql b L 19 V O
  rd : Rd w 3 (.slice a M cap) M (all.flatMap Ent.cells)
  bad : MapV w mB (.int .i64 0) (fun i => .int .i64 (bv i))
  wO : wq ∈ O
  mO : mB ∈ O
  zO : ∀ z ∈ vblocks (.slice a M cap), z ∈ O
  new : w0.heap.size ≤ wq
  newB : w0.heap.size ≤ mB
  ne : mB ≠ wq
  nz : mB ∉ vblocks (.slice a M cap)
  nw : wq ∉ vblocks (.slice a M cap)
theorem MapV.same {w w' : World} {b : Nat} {z : Value} {g : Int → Value} (h : MapV w b z g) (hx : ∀ o, w.heap[b]? = some o → w'.heap[b]? = some o) : MapV w' b z g := by
  obtain ⟨f, ⟨es, clock, h1, h2⟩, h3⟩ := h
  exact ⟨f, ⟨es, clock, hx _ h1, h2⟩, h3⟩
theorem MapPAt.same {w w' : World} {b : Nat} {f : Int → Option Value} (h : MapPAt w b f) (hx : ∀ o, w.heap[b]? = some o → w'.heap[b]? = some o) : MapPAt w' b f := by
  obtain ⟨es, clock, h1, h2⟩ := h
  exact ⟨es, clock, hx _ h1, h2⟩
section
variable {w0 w : World} {wq b q ql : Nat} {first : Int} {a : Option Addr} {M cap : Nat} {vm : Value} {all : List Ent} {bv : Int → Int} {mB : Nat} {O : List Nat} {L : Lg} {V : Int → Sl}
theorem HmS.keep {w' : World} (h : HmS w0 wq b q ql first a M cap vm all bv mB O L V w) (hx : Ext [] w w') : HmS w0 wq b q ql first a M cap vm all bv mB O L V w' :=
  ⟨Blk.keep h.blk hx (by simp), h.log.keep hx, h.rd.keep hx (by simp), h.bad.keep hx (by simp), h.wO, h.mO, h.zO, h.new, h.newB, h.ne, h.nz, h.nw⟩
theorem HmS.turn {w' : World} {ql' : Nat} {L' : Lg} {V' : Int → Sl} (h : HmS w0 wq b q ql first a M cap vm all bv mB O L V w) (hl : LgX w0 w' ql' b L' 19 V' O) (hk : Kept O w w') : HmS w0 wq b q ql' first a M cap vm all bv mB O L' V' w' :=
  ⟨hk.blk h.blk h.wO, hl, hk.rd h.rd h.zO, h.bad.same (fun o ho => hk mB h.mO o ho), h.wO, h.mO, h.zO, h.new, h.newB, h.ne, h.nz, h.nw⟩
theorem HmS.add {w' : World} (h : HmS w0 wq b q ql first a M cap vm all bv mB O L V w) (hx : Ext [] w w') (z : Nat) (h1 : w.heap.size ≤ z) (h2 : z < w'.heap.size) : HmS w0 wq b q ql first a M cap vm all bv mB (z :: O) L V w' :=
  ⟨Blk.keep h.blk hx (by simp), h.log.add hx z h1 h2, h.rd.keep hx (by simp), h.bad.keep hx (by simp), List.mem_cons_of_mem _ h.wO, List.mem_cons_of_mem _ h.mO, fun y hy => List.mem_cons_of_mem _ (h.zO y hy), h.new, h.newB, h.ne, h.nz, h.nw⟩
theorem HmS.other {w' : World} {z : Nat} (h : HmS w0 wq b q ql first a M cap vm all bv mB O L V w) (hx : Ext [z] w w') (hz : z ∈ O) (h1 : w0.heap.size ≤ z) (h2 : z ≠ wq) (h3 : z ≠ mB) (h4 : z ∉ vblocks (.slice a M cap)) : HmS w0 wq b q ql first a M cap vm all bv mB O L V w' :=
  ⟨Blk.keep h.blk hx (by simpa using fun e => h2 e.symm), h.log.other hx hz h1, h.rd.keep hx (fun y hy hm => by simp at hm; subst hm; exact h4 hy), h.bad.keep hx (by simpa using fun e => h3 e.symm), h.wO, h.mO, h.zO, h.new, h.newB, h.ne, h.nz, h.nw⟩
/-- A number put into the map of damage. -/
theorem HmS.setB {w' : World} {bv' : Int → Int} (h : HmS w0 wq b q ql first a M cap vm all bv mB O L V w) (hx : Ext [mB] w w') (hm : MapV w' mB (.int .i64 0) (fun i => .int .i64 (bv' i))) : HmS w0 wq b q ql first a M cap vm all bv' mB O L V w' :=
  ⟨Blk.keep h.blk hx (by simpa using fun e => h.ne e.symm), h.log.other hx h.mO h.newB, h.rd.keep hx (fun y hy hm => by simp at hm; subst hm; exact h.nz hy), hm, h.wO, h.mO, h.zO, h.new, h.newB, h.ne, h.nz, h.nw⟩
theorem HmS.cast {bv' : Int → Int} (h : HmS w0 wq b q ql first a M cap vm all bv mB O L V w) (hb : ∀ i, bv i = bv' i) : HmS w0 wq b q ql first a M cap vm all bv' mB O L V w := by
  have : bv = bv' := funext hb
  subst this
  exact h
theorem HmS.sub {O' : List Nat} (h : HmS w0 wq b q ql first a M cap vm all bv mB O L V w) (hs : ∀ z ∈ O', z ∈ O) (h1 : wq ∈ O') (h2 : mB ∈ O') (h3 : ∀ z ∈ vblocks (.slice a M cap), z ∈ O') : HmS w0 wq b q ql first a M cap vm all bv mB O' L V w :=
  ⟨h.blk, h.log.sub hs, h.rd, h.bad, h1, h2, h3, h.new, h.newB, h.ne, h.nz, h.nw⟩
/-- An entry's cells. -/
theorem HmS.ent (h : HmS w0 wq b q ql first a M cap vm all bv mB O L V w) (k : Nat) (hk : k < M) : ∃ (zg zo : Nat) (e : Ent), a = some ⟨zg, zo, none⟩ ∧ all[k]? = some e ∧ w.cell? ⟨zg, zo + k * 3, none⟩ = some (.int .i64 e.idx) ∧ w.cell? ⟨zg, zo + k * 3 + 1, none⟩ = some (.int .i64 e.term) ∧ w.cell? ⟨zg, zo + k * 3 + 2, none⟩ = some (str e.data) := by
  obtain ⟨zg, zo, rfl, -, hc⟩ := h.rd.view (by omega)
  have hl := h.rd.len.2.2.2
  rw [flatMap_len _ 3 ecells_len] at hl
  have hka : k < all.length := by omega
  refine ⟨zg, zo, all[k], rfl, List.getElem?_eq_getElem hka, hc (k * 3 + 0) _ (by rw [flatMap_get _ 3 ecells_len _ k 0 hka (by omega)]; rfl), ?_, ?_⟩
  · have := hc (k * 3 + 1) (.int .i64 all[k].term) (by rw [flatMap_get _ 3 ecells_len _ k 1 hka (by omega)]; rfl)
    rwa [← Nat.add_assoc] at this
  · have := hc (k * 3 + 2) (str all[k].data) (by rw [flatMap_get _ 3 ecells_len _ k 2 hka (by omega)]; rfl)
    rwa [← Nat.add_assoc] at this
theorem HmS.c0 (h : HmS w0 wq b q ql first a M cap vm all bv mB O L V w) : w.cell? ⟨wq, 0, none⟩ = some (.pointer (some ⟨b, 0, none⟩)) := Blk.c h.blk 0
theorem HmS.c1 (h : HmS w0 wq b q ql first a M cap vm all bv mB O L V w) : w.cell? ⟨wq, 1, none⟩ = some (.pointer (some ⟨q, 0, none⟩)) := Blk.c h.blk 1
theorem HmS.c2 (h : HmS w0 wq b q ql first a M cap vm all bv mB O L V w) : w.cell? ⟨wq, 2, none⟩ = some (.int .i64 first) := Blk.c h.blk 2
theorem HmS.c3 (h : HmS w0 wq b q ql first a M cap vm all bv mB O L V w) : w.cell? ⟨wq, 3, none⟩ = some (.slice a M cap) := Blk.c h.blk 3
end

/-- A log, told from its device: its last entry's number may be asked when the device is another log's. -/
theorem LgX.olds {w0 w : World} {q b : Nat} {L : Lg} {n : Int} {V : Int → Sl} {O : List Nat} (h : LgX w0 w q b L n V O) : ∃ m, DevX w0 w b n V (q :: m :: O) ∧ (∀ w', Kept (q :: m :: O) w w' → ∀ w'', Ext [] w' w'' → Calls Try.prog 21 #[.pointer (some ⟨q, 0, none⟩)] w'' fun e w3 => e = .returned (.int .i64 L.last) ∧ Ext [] w'' w3) := by
  obtain ⟨mb, tv, D, h⟩ := h
  refine ⟨mb, ⟨D, h.toLgM.dev.sub (fun z hz => by simp only [List.mem_cons, List.mem_append] at hz ⊢; rcases hz with h | h | h; exact .inl h; exact .inr (.inl h); exact .inr (.inr (.inr h))), h.fine⟩, fun w' hk w'' hx => ?_⟩
  have hb : LgB w'' q b mb tv L := Blk.keep (hk.blk h.blk (by simp)) hx (by simp)
  refine (last_o w'' hb h.ok h.toLgM.tv_slice).mono ?_
  intro e w3 hq
  exact QRet.ext hq
/-- A harm that came in. -/
structure H6 where
  x : Int
  w : Int
  t : Int
  c : UInt8
def H6.cells (h : H6) : List Value := [.int .i64 h.x, .int .i64 h.w, .int .i64 h.t, .int .u8 (h.c.toNat : Int)]
theorem h6cells_len (h : H6) : h.cells.length = 4 := rfl
def H6.ok (h : H6) : Prop := -9223372036854775808 ≤ h.t ∧ h.t ≤ 9223372036854775807
variable {H : Type} {enc : TypeId × Value → H} {w : World} {spare : Nat → Bool} {held : Bool}
set_option maxRecDepth 100000 in
theorem h6_of_trod {m : Nat} {cs : List Value} {y : DataW H × List MemPlace} (h : DataW.trod enc Try.prog w 0 spare held m 48 cs = some y) :
    ∃ p : H6, cs = p.cells ∧ p.ok := by
  obtain ⟨xs, n, _, _, hl, hlen, hf⟩ := DataW.trod_struct Try.underlying48 h
  have e4 : Try.prog.cellsOf 48 = 4 := by kernel_rfl
  have ei : Try.prog.cellsOf 3 = 1 := by kernel_rfl
  have eb : Try.prog.cellsOf 5 = 1 := by kernel_rfl
  rw [e4] at hl
  match cs, hl, xs, hlen with
  | [u0, u1, u2, u3], _, [y0, y1, y2, y3], _ =>
    have h0 := hf 0 _ rfl
    have h1 := hf 1 _ rfl
    have h2 := hf 2 _ rfl
    have h3 := hf 3 _ rfl
    simp only [ei, eb, List.drop_zero, List.take_succ_cons, List.take_zero, List.drop_succ_cons, List.getElem?_cons_zero, List.getElem?_cons_succ] at h0 h1 h2 h3
    obtain ⟨n0, c0, _, w0⟩ := DataW.trod_int Try.underlying3 h0
    obtain ⟨n1, c1, _, w1⟩ := DataW.trod_int Try.underlying3 h1
    obtain ⟨n2, c2, _, w2⟩ := DataW.trod_int Try.underlying3 h2
    obtain ⟨n3, c3, _, w3⟩ := DataW.trod_int Try.underlying5 h3
    obtain ⟨c, rfl⟩ := wf_u8 w3
    cases c0; cases c1; cases c2; cases c3
    exact ⟨⟨n0, n1, n2, c⟩, rfl, wf_i64 w2⟩
theorem rd_harms6 {a : Option Addr} {len cap : Nat} {d : DataW H} {ps : List MemPlace}
    (h : DataW.Trod enc Try.prog w 0 spare held 44 (.slice a len cap) d ps) :
    ∃ l : List H6, Rd w 4 (.slice a len cap) len (l.flatMap H6.cells) ∧ ∀ p ∈ l, p.ok := by
  obtain ⟨xs, h1, h2⟩ := rd_of_trod Try.underlying44 (by kernel_rfl : Try.prog.cellsOf 48 = 4) h
  obtain ⟨l, h3, h4, h5⟩ := pieces H6.cells H6.ok 4 len xs h1.1 (fun i hi => by
    obtain ⟨m, y, hy⟩ := h2 i hi
    exact h6_of_trod hy)
  exact ⟨l, h4 ▸ h1, h5⟩
end Go.Proofs.Ytmjgbkepngeckaa
namespace Go.Proofs.Ytmjgbkepngeckaa
open Go.RowKit
set_option linter.unusedVariables false
set_option linter.unusedSimpArgs false
attribute [local go_sem] i64_and255
/-- Opened on the damaged device. -/
def HoMid (w0 wr w : World) (b q2 : Nat) (first : Int) (all : List Ent) (eb mb : Int → Bool) (O : List Nat) : Prop :=
  Kept O wr w ∧ ∃ L2 V2, LgX w0 w q2 b L2 19 V2 O ∧ Tells L2 V2 all eb (fun i => mb i && eb i) (fun i => !(eb i && mb i)) ∧ Open9 L2 V2 all.length ∧ L2.base = 3 ∧ L2.size = 8 ∧ L2.first = first
def ho43Φ (wq b' : Nat) (first : Int) (n : Nat) (y : Value) (w : World) : Prop :=
  match n with
  | 0 => y = .pointer (some ⟨wq, 0, none⟩)
  | 1 => y = .pointer (some ⟨wq, 0, none⟩)
  | 2 => y = .pointer (some ⟨wq, 0, none⟩)
  | 3 => y = .pointer (some ⟨b', 0, none⟩)
  | 4 => y = .pointer (some ⟨wq, 0, none⟩)
  | 5 => y = .pointer (some ⟨wq, 0, none⟩)
  | 6 => y = .pointer (some ⟨wq, 2, none⟩)
  | 7 => y = .int .i64 first
  | _ => True
def ho43ΦT (wq b' : Nat) (first : Int) (n : Nat) (y : Value) : Prop :=
  match n with
  | 0 => y = .pointer (some ⟨wq, 0, none⟩)
  | 1 => y = .pointer (some ⟨wq, 0, none⟩)
  | 2 => y = .pointer (some ⟨wq, 0, none⟩)
  | 3 => y = .pointer (some ⟨b', 0, none⟩)
  | 4 => y = .pointer (some ⟨wq, 0, none⟩)
  | 5 => y = .pointer (some ⟨wq, 0, none⟩)
  | 6 => y = .pointer (some ⟨wq, 2, none⟩)
  | 7 => y = .int .i64 first
  | _ => True
theorem row4H {w : World} {G : Nat} {t : TypeId} {x y z u : Value} (h : Blk w G t [x, y, z, u]) : w.cell? ⟨G, 0, none⟩ = some x ∧ w.cell? ⟨G, 1, none⟩ = some y ∧ w.cell? ⟨G, 2, none⟩ = some z ∧ w.cell? ⟨G, 3, none⟩ = some u := ⟨Blk.c h 0, Blk.c h 1, Blk.c h 2, Blk.c h 3⟩
theorem zero_intH (W : World) : (zeroValue 3).run Try.prog W = .ok (.int .i64 0) W := by kernel_rfl

set_option maxRecDepth 100000 in
set_option maxHeartbeats 51200000 in
theorem pharms_any {w0 : World} (a : Option Addr) (len cap : Nat) (al : List A6) (hR : Rd w0 7 (.slice a len cap) len (al.flatMap A6.cells)) (hok : ∀ p ∈ al, p.ok w0) (ha : Option Addr) (hlen hcap : Nat) (hl : List H6) (hHR : Rd w0 4 (.slice ha hlen hcap) hlen (hl.flatMap H6.cells)) (hHok : ∀ p ∈ hl, p.ok) :
    Calls Try.prog 4 #[.slice a len cap, .slice ha hlen hcap] w0 fun e w' => e = .returned (.bool true) ∧ Ext [] w0 w' := by
  have hal : al.length = len := by have := hR.len.2.2.2; rw [flatMap_len _ 7 a6cells_len] at this; omega
  have hok2 : ∀ p ∈ al, p.d.length ≤ maxLen ∧ p.fl ≤ maxLen := fun p hp => by
    obtain ⟨h1, fs, h2⟩ := hok p hp
    exact ⟨h1, by have := h2.len; omega⟩
  have cfew := fun w (hx : Ext [] w0 w) => few6_any al a len cap w0 hR hok2 w hx
  have HR := Hid.of hR
  have HOk := Hid.of hok
  have HL := Hid.of hal
  have HHR := Hid.of hHR
  have HHok := Hid.of hHok
  have HHl : Hid (hl.length = hlen) := Hid.of (by have := hHR.len.2.2.2; rw [flatMap_len _ 4 h6cells_len] at this; omega)
  have hlm : hlen ≤ 9223372036854775807 := by have := hHR.len; unfold maxLen at this; omega
  clear hR hok hal hok2 hHR hHok
  go_enter Try.func4, Try.ntmps4
  go_upto_region 3 with (first
    | (go_at_call 11; (with_reducible refine (head6_any _).mono ?_); rintro e w1 ⟨rfl, hx1⟩; have cf1 := cfew w1 hx1; have HX1 := Hid.of hx1; clear hx1 cfew))
  go_wp2_with fail
  refine cf1.mono ?_
  rintro e w2 ⟨⟨r, rfl, hr⟩, hx2⟩
  have HX2 := Hid.of (HX1.out.then0 hx2)
  have HFw := Hid.of hr
  clear hr hx2 cf1
  cases r with
  | false =>
    go_wp2
    go_ret
    exact ⟨rfl, HX2.out⟩
  | true =>
    have HFew := Hid.of (HFw.out rfl)
    have hl30 := HFew.out.1
    have cn := neww w0 w2 HX2.out [] (by simp)
    clear HFw
    by_cases h10 : 10 < (hlen : Int)
    · go_wp2
      go_ret
      exact ⟨rfl, HX2.out⟩
    have h10d : decide (10 < (hlen : Int)) = false := decide_eq_false h10
    go_upto_region 8 with (first
      | (go_at_call 13; (with_reducible refine cn.mono ?_); intro e w3 hq; obtain ⟨wq, b, q, rfl, hst, hk⟩ := NewW.st hq; have HS3 : Hid (RSt w0 w3 wq b q 1 (.slice none 0 0) [] [] none 0) := Hid.of ⟨hst, Rd.nil _ _⟩; clear hq hst hk cn))
    go_upto_region 9 with fail
    go_loopw [42] (fun u42 wr => ∃ (j : Nat) (first : Int) (vm : Value) (all : List Ent) (b' q' : Nat) (a' : Option Addr) (cap' : Nat), u42 = .int .i64 (j : Int) ∧ j ≤ len ∧ 1 ≤ first ∧ first ≤ 1 + 3 * (j : Int) ∧ Hid (AllOk all) ∧ Hid (RSt w0 wr wq b' q' first vm all [] a' cap')) (fun u42 _ => len - (intOf u42).toNat)
    case atStart => exact ⟨0, 1, _, [], b, q, none, 0, rfl, by omega, by omega, by omega, fun e he => by simp at he, HS3⟩
    case round =>
      obtain ⟨j, first, vm, all, b', q', a', cap', rfl, hj, hf1, hf2, hAO, hS⟩ := hrel
      by_cases hjl : j < len
      · have hRr := HR.out.keep hS.out.1.ext (by simp)
        obtain ⟨g, off, rfl, hgw, hc⟩ := hRr.view (by omega)
        have hje : j < al.length := by have := HL.out; omega
        have cc : ∀ i : Nat, i < 7 → wr.cell? ⟨g, off + (j * 7 + i), none⟩ = al[j].cells[i]? := fun i hi => by
          have h1 := flatMap_get A6.cells 7 a6cells_len al j i hje hi
          have h2 : al[j].cells[i]? = some (al[j].cells[i]'(by rw [a6cells_len]; exact hi)) := List.getElem?_eq_getElem _
          rw [h2] at h1 ⊢
          exact hc _ _ h1
        have hokj := HOk.out al[j] (List.getElem_mem _)
        have hfj := HFew.out.2 al[j] (List.getElem_mem _)
        obtain ⟨x, hx⟩ : ∃ x, x = al[j] := ⟨_, rfl⟩
        rw [← hx] at cc hokj hfj
        obtain ⟨xk, xn, xt, xb, xf, xd, fa, fl, fc⟩ := x
        obtain ⟨k1, fs, k2⟩ := hokj
        have hd200 := hfj.1
        simp only at k2 hd200
        have c0 : wr.cell? ⟨g, off + j * 7, none⟩ = some (.int .i64 xk) := cc 0 (by omega)
        have c1 : wr.cell? ⟨g, off + (j * 7 + 1), none⟩ = some (.int .i64 xn) := cc 1 (by omega)
        have c2 : wr.cell? ⟨g, off + (j * 7 + 2), none⟩ = some (.int .i64 xt) := cc 2 (by omega)
        have c3 : wr.cell? ⟨g, off + (j * 7 + 3), none⟩ = some (.int .i64 xb) := cc 3 (by omega)
        have c4 : wr.cell? ⟨g, off + (j * 7 + 4), none⟩ = some (.int .i64 xf) := cc 4 (by omega)
        have c5 : wr.cell? ⟨g, off + (j * 7 + 5), none⟩ = some (.string ⟨xd.toArray⟩) := cc 5 (by omega)
        have c6 : wr.cell? ⟨g, off + (j * 7 + 6), none⟩ = some (.slice fa fl fc) := cc 6 (by omega)
        rw [← Nat.add_assoc] at c1 c2 c3 c4 c5 c6
        have hgl : g < wr.heap.size := World.block_lt_of_cell? wr ⟨g, off + j * 7, none⟩ c0
        obtain ⟨P, hP⟩ : ∃ x, x = wr.heap.size := ⟨_, rfl⟩
        obtain ⟨Wp, hWp⟩ : ∃ W, W = wr.alloc (.cells #[.int .i64 xk, .int .i64 xn, .int .i64 xt, .int .i64 xb, .int .i64 0, .string ⟨xd.toArray⟩, .slice fa fl fc] 29) := ⟨_, rfl⟩
        have hxp : Ext [] wr Wp := by rw [hWp]; exact (Ext.refl _ _).alloc _
        have hPB : Blk Wp P 29 [.int .i64 xk, .int .i64 xn, .int .i64 xt, .int .i64 xb, .int .i64 0, .string ⟨xd.toArray⟩, .slice fa fl fc] := by rw [hP, hWp]; exact Blk.new wr 29 #[.int .i64 xk, .int .i64 xn, .int .i64 xt, .int .i64 xb, .int .i64 0, .string ⟨xd.toArray⟩, .slice fa fl fc]
        have cD := do_c (hS.out.keep hxp) hAO.out (by omega) xk xn xt xb xd hd200 fa fl fc fs k2
        unfold actC at cD
        have HPB := Hid.of hPB
        clear hx cc hc hgw hRr hfj k1 k2 hPB hxp
        go_upto_region 12 with fail
        rw [← hP, ← hWp]
        clear hP hWp c0 c1 c2 c3 c4 c5 c6
        have e0 : Wp.cell? ⟨P, 0, none⟩ = some (.int .i64 xk) := Blk.c HPB.out 0
        have e1 : Wp.cell? ⟨P, 1, none⟩ = some (.int .i64 xn) := Blk.c HPB.out 1
        have e2 : Wp.cell? ⟨P, 2, none⟩ = some (.int .i64 xt) := Blk.c HPB.out 2
        have e3 : Wp.cell? ⟨P, 3, none⟩ = some (.int .i64 xb) := Blk.c HPB.out 3
        have e4 : Wp.cell? ⟨P, 4, none⟩ = some (.int .i64 0) := Blk.c HPB.out 4
        have e5 : Wp.cell? ⟨P, 5, none⟩ = some (.string ⟨xd.toArray⟩) := Blk.c HPB.out 5
        have e6 : Wp.cell? ⟨P, 6, none⟩ = some (.slice fa fl fc) := Blk.c HPB.out 6
        go_wp2_with (first
          | (go_at_call 14; (with_reducible refine cD.mono ?_); rintro e w5 ⟨rfl, b5, q5, first5, vm5, all5, a5, cap5, hS5, hA5, g1, g2⟩; have HS5 := Hid.of hS5; have HA5 := Hid.of hA5; clear hS5 hA5 cD))
        exact ⟨⟨j + 1, first5, vm5, all5, b5, q5, a5, cap5, by congr 1, by omega, by omega, by omega, HA5, HS5⟩, by simp [intOf]; omega⟩
      · obtain ⟨M, hM⟩ : ∃ x, x = all.length := ⟨_, rfl⟩
        obtain ⟨L, V0, hWo, hSo, e1, e2, e3⟩ := hS.out.1
        have hRd := hS.out.2
        have hlog := hWo.log
        have hwb := hWo.blk
        have hwn := hWo.ne
        have hwo := hWo.new
        rw [← hM] at hRd hlog hwb hwn
        have hM8 : M ≤ 8 := by have := hSo.laid.len; omega
        have hfr : 1 ≤ first ∧ first ≤ 1000 := by omega
        have hab : ∀ i, L.a i < L.base + L.size ∧ L.base + L.size ≤ L.b i := fun i => (hlog.ok.ab i).2.2.2.2
        have HAb := Hid.of hab
        have HSo := Hid.of hSo
        have HL3 : Hid (L.base = 3 ∧ L.size = 8 ∧ L.first = first) := Hid.of ⟨e1, e2, e3⟩
        have HM := Hid.of hM
        obtain ⟨w6, hw6⟩ : ∃ x, x = wr := ⟨_, rfl⟩
        rw [← hw6] at hRd hlog hwb ⊢
        clear hw6 hM hWo hS e1 e2 e3
        have hmm := @run_makeMap Try.prog
        go_upto_region 16 with fail
        clear hmm
        obtain ⟨w7, hw7⟩ : ∃ w, w = w6.alloc (.map #[] 0) := ⟨_, rfl⟩
        obtain ⟨mB, hmB⟩ : ∃ m, m = w6.heap.size := ⟨_, rfl⟩
        obtain ⟨O0, hO0⟩ : ∃ O, O = mB :: wq :: (vblocks (.slice a' M cap') ++ []) := ⟨_, rfl⟩
        have hx7 : Ext [] w6 w7 := by rw [hw7]; exact (Ext.refl _ _).alloc _
        have hwl := Blk.lt hwb
        have HS7 : Hid (HmS w0 wq b' q' q' first a' M cap' vm all (fun i => badv (noBad i) (noBad i)) mB O0 L V0 w7) := Hid.of (by
          have hmv : MapV w7 mB (.int .i64 0) (fun i => .int .i64 (badv (noBad i) (noBad i))) := by rw [hw7]; exact MapV.newg _ hmB.symm
          rw [hO0]
          exact ⟨Blk.keep hwb hx7 (by simp), hlog.add hx7 mB (by omega) (MapV.lt hmv), hRd.keep hx7 (by simp), hmv, by simp, by simp, fun z hz => by simp [hz], hwo, by have := hlog.ext.size; omega, by omega, fun hz => by have := hlog.lt mB (by simp [hz]); omega, fun hz => hwn (by simp [hz])⟩)
        rw [← hw7, ← hmB]
        have HO0 := Hid.of hO0
        have HMq : Hid (wq < w7.heap.size ∧ mB < w7.heap.size ∧ (∀ z ∈ O0, z < w7.heap.size)) := Hid.of ⟨Blk.lt HS7.out.blk, MapV.lt HS7.out.bad, HS7.out.log.lt⟩
        have c3 := HS7.out.c3
        clear hw7 hmB hO0 hx7 hwl hRd hlog hwb hwn hwo hab hSo
        go_upto_if 58 with fail
        clear c3
        go_cut [] (fun wx => ∃ (eb mb : Int → Bool) (V : Int → Sl), Hid (HmS w0 wq b' q' q' first a' M cap' vm all (fun i => badv (eb i) (mb i)) mB O0 L V wx) ∧ Hid (LaidE L V all eb mb) ∧ Hid (Open9 L V all.length))
        case first => as_aux_lemma =>
          by_cases hM0 : M = 0
          · have hd0 : decide (0 < (M : Int)) = false := decide_eq_false (by omega)
            go_wp2_with fail
            go_meet
            exact ⟨noBad, noBad, V0, HS7, HSo.out.laid, HSo.out.free⟩
          · have hd0 : decide (0 < (M : Int)) = true := decide_eq_true (by omega)
            have hmm := @run_makeMap Try.prog
            go_upto_region 18 with fail
            clear hmm hd0
            obtain ⟨w8, hw8⟩ : ∃ w, w = w7.alloc (.map #[] 0) := ⟨_, rfl⟩
            obtain ⟨mS, hmS⟩ : ∃ m, m = w7.heap.size := ⟨_, rfl⟩
            have hx8 : Ext [] w7 w8 := by rw [hw8]; exact (Ext.refl _ _).alloc _
            have hs8 : MapPAt w8 mS (fun _ => none) := by rw [hw8]; exact MapPAt.newg hmS.symm
            have HS8 := Hid.of (HS7.out.add hx8 mS (by omega) (by rw [hw8, hmS]; simp))
            have HP8 := Hid.of hs8
            have HmSn : Hid (w0.heap.size ≤ mS ∧ mS ≠ wq ∧ mS ≠ mB ∧ mS ∉ vblocks (.slice a' M cap')) := Hid.of ⟨by have := HS7.out.log.ext.size; omega, by have := HMq.out.1; omega, by have := HMq.out.2.1; omega, fun hz => by have := HMq.out.2.2 mS (HS7.out.zO mS hz); omega⟩
            rw [← hw8, ← hmS]
            clear hw8 hmS hx8 hs8 HS7
            go_wp2_with fail
            go_loopw [62] (fun u62 wr => ∃ (i : Nat) (eb mb : Int → Bool) (V : Int → Sl) (sf : Int → Option Value), u62 = .int .i64 (i : Int) ∧ i ≤ hlen ∧ Hid (HmS w0 wq b' q' q' first a' M cap' vm all (fun i => badv (eb i) (mb i)) mB (mS :: O0) L V wr) ∧ Hid (LaidE L V all eb mb) ∧ Hid (Open9 L V all.length) ∧ Hid (MapPAt wr mS sf) ∧ Hid (∀ i, (sf i = none → eb i = false ∧ mb i = false) ∧ (∀ v, sf i = some v → v = .bool true))) (fun u62 _ => hlen - (intOf u62).toNat)
            case atStart => exact ⟨0, noBad, noBad, V0, fun _ => none, rfl, by omega, HS8, HSo.out.laid, HSo.out.free, HP8, Hid.of (fun i => ⟨fun _ => ⟨rfl, rfl⟩, fun v hv => by cases hv⟩)⟩
            case round => as_aux_lemma =>
              clear HS8 HP8
              obtain ⟨i, eb, mb, V, sf, rfl, hi, HS, HLa, HOp, HPs, HSf⟩ := hrel
              by_cases hil : i < hlen
              · obtain ⟨zg, off, rfl, hgw, hc⟩ := (HHR.out.keep HS.out.log.ext (by simp) : Rd wr 4 _ _ _).view (by omega)
                have hie : i < hl.length := by have := HHl.out; omega
                have cc : ∀ k : Nat, k < 4 → wr.cell? ⟨zg, off + (i * 4 + k), none⟩ = hl[i].cells[k]? := fun k hk => by
                  have h1 := flatMap_get H6.cells 4 h6cells_len hl i k hie hk
                  have h2 : hl[i].cells[k]? = some (hl[i].cells[k]'(by rw [h6cells_len]; exact hk)) := List.getElem?_eq_getElem _
                  rw [h2] at h1 ⊢
                  exact hc _ _ h1
                have hok := HHok.out hl[i] (List.getElem_mem _)
                obtain ⟨y, hy⟩ : ∃ y, y = hl[i] := ⟨_, rfl⟩
                rw [← hy] at cc hok
                obtain ⟨kx, kw, kt, kc⟩ := y
                have HKt : Hid (-9223372036854775808 ≤ kt ∧ kt ≤ 9223372036854775807) := Hid.of hok
                have c0 : wr.cell? ⟨zg, off + i * 4, none⟩ = some (.int .i64 kx) := cc 0 (by omega)
                have c1 : wr.cell? ⟨zg, off + (i * 4 + 1), none⟩ = some (.int .i64 kw) := cc 1 (by omega)
                have c2 : wr.cell? ⟨zg, off + (i * 4 + 2), none⟩ = some (.int .i64 kt) := cc 2 (by omega)
                have c3 : wr.cell? ⟨zg, off + (i * 4 + 3), none⟩ = some (.int .u8 (kc.toNat : Int)) := cc 3 (by omega)
                rw [← Nat.add_assoc] at c1 c2 c3
                obtain ⟨Hb, hHb⟩ : ∃ x, x = wr.heap.size := ⟨_, rfl⟩
                obtain ⟨w9, hw9⟩ : ∃ W, W = wr.alloc (.cells #[.int .i64 kx, .int .i64 kw, .int .i64 kt, .int .u8 (kc.toNat : Int)] 48) := ⟨_, rfl⟩
                have hx9 : Ext [] wr w9 := by rw [hw9]; exact (Ext.refl _ _).alloc _
                have hb9 : Blk w9 Hb 48 [.int .i64 kx, .int .i64 kw, .int .i64 kt, .int .u8 (kc.toNat : Int)] := by rw [hw9]; exact Blk.newg hHb.symm
                have HS9 := Hid.of (HS.out.add hx9 Hb (by omega) (Blk.lt hb9))
                have HP9 := Hid.of (HPs.out.keep hx9 (by simp))
                have HB9 := Hid.of hb9
                have HHb : Hid (Hb ≠ mS) := Hid.of (fun e => by have := HS.out.log.lt mS (by simp); omega)
                clear hc cc hok hy hie hgw hx9 hb9
                go_upto_region 21 with fail
                rw [← hHb, ← hw9]
                clear hHb hw9 c0 c1 c2 c3 HS HPs
                obtain ⟨jn, hjn⟩ : ∃ jn : Nat, kx % 256 % (M : Int) = (jn : Int) := ⟨(kx % 256 % (M : Int)).toNat, by rw [Int.toNat_of_nonneg (Int.emod_nonneg _ (by omega))]⟩
                have hjnt : Int.tmod (kx % 256) (M : Int) = (jn : Int) := by rw [Int.tmod_eq_emod_of_nonneg (by omega)]; exact hjn
                have hjM : jn < M := by have := Int.emod_lt_of_pos (kx % 256) (show (0 : Int) < M by omega); omega
                have hnz : ¬ (M : Int) = 0 := by omega
                have hnz2 : ¬ M = 0 := hM0
                refine wp_region_u [66, 67, 68, 69, 70, 71, 72, 73, 74, 75, 76, 77, 78, 79, 12] [] (fun n => match n with | 0 => .pointer (some ⟨wq, 0, none⟩) | 1 => .pointer (some ⟨wq, 0, none⟩) | 2 => .pointer (some ⟨wq, 2, none⟩) | 3 => .int .i64 first | 4 => .pointer (some ⟨Hb, 0, none⟩) | 5 => .int .i64 kx | 6 => .int .i64 (kx % 256) | 7 => .pointer (some ⟨wq, 0, none⟩) | 8 => .pointer (some ⟨wq, 0, none⟩) | 9 => .pointer (some ⟨wq, 3, none⟩) | 10 => .slice a' M cap' | 11 => .int .i64 (M : Int) | 12 => .int .i64 (jn : Int) | 13 => .int .i64 (first + (jn : Int)) | 14 => .int .i64 (first + (jn : Int)) | _ => undef) (fun f v wx => Ext [] w9 wx) (by kernel_rfl) (by kernel_rfl) ?hst0_21 ?h00_21 ?hst_21 ?hend_21
                case hst0_21 =>
                  exact fun f v w w' h hx => h.then0 hx
                case h00_21 =>
                  exact Ext.refl _ _
                case hst_21 =>
                  refine ⟨?f0_21, ?f1_21, ?f2_21, ?f3_21, ?f4_21, ?f5_21, ?f6_21, ?f7_21, ?f8_21, ?f9_21, ?f10_21, ?f11_21, ?f12_21, ?f13_21, ?f14_21, trivial⟩
                  case f0_21 =>
                    intro f v g w' hJ hfi hb hd
                    refine arm_u rfl ?_
                    refine op_run rfl ?_
                    generalize hA : mkAct _ _ g = A
                    have h5 : A.tmps[5]?.getD undef = .pointer (some ⟨wq, 0, none⟩) := by rw [← hA]; exact mkAct_out2 _ _ _ _ _ rfl rfl
                    refine step_val (v := .pointer (some ⟨wq, 0, none⟩)) (w' := w') ?_ ⟨rfl, Ext.refl _ _⟩
                    simp [execOp, h5, Result.andThen, go_sem]
                  case f1_21 =>
                    intro f v g w' hJ hfi hb hd
                    refine arm_u rfl ?_
                    refine op_run rfl ?_
                    have e66 : g 66 = .pointer (some ⟨wq, 0, none⟩) := value_u (hd ⟨0, .data⟩ (by simp) rfl) rfl rfl
                    generalize hA : mkAct _ _ g = A
                    have h66 : A.tmps[66]?.getD undef = .pointer (some ⟨wq, 0, none⟩) := by rw [← hA, mkAct_in2 _ _ _ _ rfl rfl]; exact e66
                    refine step_val (v := .pointer (some ⟨wq, 0, none⟩)) (w' := w') ?_ ⟨rfl, Ext.refl _ _⟩
                    simp [execOp, h66, Result.andThen, go_sem]
                  case f2_21 =>
                    intro f v g w' hJ hfi hb hd
                    refine arm_u rfl ?_
                    refine op_run rfl ?_
                    have e67 : g 67 = .pointer (some ⟨wq, 0, none⟩) := value_u (hd ⟨1, .data⟩ (by simp) rfl) rfl rfl
                    generalize hA : mkAct _ _ g = A
                    have h67 : A.tmps[67]?.getD undef = .pointer (some ⟨wq, 0, none⟩) := by rw [← hA, mkAct_in2 _ _ _ _ rfl rfl]; exact e67
                    refine step_val (v := .pointer (some ⟨wq, 2, none⟩)) (w' := w') ?_ ⟨rfl, Ext.refl _ _⟩
                    simp [execOp, h67, Result.andThen, go_sem]
                  case f3_21 =>
                    intro f v g w' hJ hfi hb hd
                    refine arm_u rfl ?_
                    refine op_run rfl ?_
                    have e68 : g 68 = .pointer (some ⟨wq, 2, none⟩) := value_u (hd ⟨2, .data⟩ (by simp) rfl) rfl rfl
                    generalize hA : mkAct _ _ g = A
                    have h68 : A.tmps[68]?.getD undef = .pointer (some ⟨wq, 2, none⟩) := by rw [← hA, mkAct_in2 _ _ _ _ rfl rfl]; exact e68
                    have c := (HS9.out.keep hJ).c2
                    refine step_val (v := .int .i64 first) (w' := w') ?_ ⟨rfl, Ext.refl _ _⟩
                    simp [execOp, h68, c, Result.andThen, go_sem]
                  case f4_21 =>
                    intro f v g w' hJ hfi hb hd
                    refine arm_u rfl ?_
                    refine op_run rfl ?_
                    generalize hA : mkAct _ _ g = A
                    have h11 : A.tmps[11]?.getD undef = .pointer (some ⟨Hb, 0, none⟩) := by rw [← hA]; exact mkAct_out2 _ _ _ _ _ rfl rfl
                    refine step_val (v := .pointer (some ⟨Hb, 0, none⟩)) (w' := w') ?_ ⟨rfl, Ext.refl _ _⟩
                    simp [execOp, h11, Result.andThen, go_sem]
                  case f5_21 =>
                    intro f v g w' hJ hfi hb hd
                    refine arm_u rfl ?_
                    refine op_run rfl ?_
                    have e70 : g 70 = .pointer (some ⟨Hb, 0, none⟩) := value_u (hd ⟨4, .data⟩ (by simp) rfl) rfl rfl
                    generalize hA : mkAct _ _ g = A
                    have h70 : A.tmps[70]?.getD undef = .pointer (some ⟨Hb, 0, none⟩) := by rw [← hA, mkAct_in2 _ _ _ _ rfl rfl]; exact e70
                    have c := (Blk.c (Blk.keep HB9.out hJ List.not_mem_nil) 0 : w'.cell? ⟨Hb, 0, none⟩ = some (.int .i64 kx))
                    refine step_val (v := .int .i64 kx) (w' := w') ?_ ⟨rfl, Ext.refl _ _⟩
                    simp [execOp, h70, c, Result.andThen, go_sem]
                  case f6_21 =>
                    intro f v g w' hJ hfi hb hd
                    refine arm_u rfl ?_
                    refine op_run rfl ?_
                    have e71 : g 71 = .int .i64 kx := value_u (hd ⟨5, .data⟩ (by simp) rfl) rfl rfl
                    generalize hA : mkAct _ _ g = A
                    have h71 : A.tmps[71]?.getD undef = .int .i64 kx := by rw [← hA, mkAct_in2 _ _ _ _ rfl rfl]; exact e71
                    refine step_val (v := .int .i64 (kx % 256)) (w' := w') ?_ ⟨rfl, Ext.refl _ _⟩
                    simp [execOp, h71, Result.andThen, go_sem]
                  case f7_21 =>
                    intro f v g w' hJ hfi hb hd
                    refine arm_u rfl ?_
                    refine op_run rfl ?_
                    generalize hA : mkAct _ _ g = A
                    have h5 : A.tmps[5]?.getD undef = .pointer (some ⟨wq, 0, none⟩) := by rw [← hA]; exact mkAct_out2 _ _ _ _ _ rfl rfl
                    refine step_val (v := .pointer (some ⟨wq, 0, none⟩)) (w' := w') ?_ ⟨rfl, Ext.refl _ _⟩
                    simp [execOp, h5, Result.andThen, go_sem]
                  case f8_21 =>
                    intro f v g w' hJ hfi hb hd
                    refine arm_u rfl ?_
                    refine op_run rfl ?_
                    have e73 : g 73 = .pointer (some ⟨wq, 0, none⟩) := value_u (hd ⟨7, .data⟩ (by simp) rfl) rfl rfl
                    generalize hA : mkAct _ _ g = A
                    have h73 : A.tmps[73]?.getD undef = .pointer (some ⟨wq, 0, none⟩) := by rw [← hA, mkAct_in2 _ _ _ _ rfl rfl]; exact e73
                    refine step_val (v := .pointer (some ⟨wq, 0, none⟩)) (w' := w') ?_ ⟨rfl, Ext.refl _ _⟩
                    simp [execOp, h73, Result.andThen, go_sem]
                  case f9_21 =>
                    intro f v g w' hJ hfi hb hd
                    refine arm_u rfl ?_
                    refine op_run rfl ?_
                    have e74 : g 74 = .pointer (some ⟨wq, 0, none⟩) := value_u (hd ⟨8, .data⟩ (by simp) rfl) rfl rfl
                    generalize hA : mkAct _ _ g = A
                    have h74 : A.tmps[74]?.getD undef = .pointer (some ⟨wq, 0, none⟩) := by rw [← hA, mkAct_in2 _ _ _ _ rfl rfl]; exact e74
                    refine step_val (v := .pointer (some ⟨wq, 3, none⟩)) (w' := w') ?_ ⟨rfl, Ext.refl _ _⟩
                    simp [execOp, h74, Result.andThen, go_sem]
                  case f10_21 =>
                    intro f v g w' hJ hfi hb hd
                    refine arm_u rfl ?_
                    refine op_run rfl ?_
                    have e75 : g 75 = .pointer (some ⟨wq, 3, none⟩) := value_u (hd ⟨9, .data⟩ (by simp) rfl) rfl rfl
                    generalize hA : mkAct _ _ g = A
                    have h75 : A.tmps[75]?.getD undef = .pointer (some ⟨wq, 3, none⟩) := by rw [← hA, mkAct_in2 _ _ _ _ rfl rfl]; exact e75
                    have c := (HS9.out.keep hJ).c3
                    refine step_val (v := .slice a' M cap') (w' := w') ?_ ⟨rfl, Ext.refl _ _⟩
                    simp [execOp, h75, c, Result.andThen, go_sem]
                  case f11_21 =>
                    intro f v g w' hJ hfi hb hd
                    refine arm_u rfl ?_
                    refine op_run rfl ?_
                    have e76 : g 76 = .slice a' M cap' := value_u (hd ⟨10, .data⟩ (by simp) rfl) rfl rfl
                    generalize hA : mkAct _ _ g = A
                    have h76 : A.tmps[76]?.getD undef = .slice a' M cap' := by rw [← hA, mkAct_in2 _ _ _ _ rfl rfl]; exact e76
                    refine step_val (v := .int .i64 (M : Int)) (w' := w') ?_ ⟨rfl, Ext.refl _ _⟩
                    simp [execOp, h76, Result.andThen, go_sem]
                  case f12_21 =>
                    intro f v g w' hJ hfi hb hd
                    refine arm_u rfl ?_
                    refine op_run rfl ?_
                    have e72 : g 72 = .int .i64 (kx % 256) := value_u (hd ⟨6, .data⟩ (by simp) rfl) rfl rfl
                    have e77 : g 77 = .int .i64 (M : Int) := value_u (hd ⟨11, .data⟩ (by simp) rfl) rfl rfl
                    generalize hA : mkAct _ _ g = A
                    have h72 : A.tmps[72]?.getD undef = .int .i64 (kx % 256) := by rw [← hA, mkAct_in2 _ _ _ _ rfl rfl]; exact e72
                    have h77 : A.tmps[77]?.getD undef = .int .i64 (M : Int) := by rw [← hA, mkAct_in2 _ _ _ _ rfl rfl]; exact e77
                    refine step_val (v := .int .i64 (jn : Int)) (w' := w') ?_ ⟨rfl, Ext.refl _ _⟩
                    simp [execOp, hjn, hjnt, hnz, hnz2, h72, h77, Result.andThen, go_sem]
                  case f13_21 =>
                    intro f v g w' hJ hfi hb hd
                    refine arm_u rfl ?_
                    refine op_run rfl ?_
                    have e69 : g 69 = .int .i64 first := value_u (hd ⟨3, .data⟩ (by simp) rfl) rfl rfl
                    have e78 : g 78 = .int .i64 (jn : Int) := value_u (hd ⟨12, .data⟩ (by simp) rfl) rfl rfl
                    generalize hA : mkAct _ _ g = A
                    have h69 : A.tmps[69]?.getD undef = .int .i64 first := by rw [← hA, mkAct_in2 _ _ _ _ rfl rfl]; exact e69
                    have h78 : A.tmps[78]?.getD undef = .int .i64 (jn : Int) := by rw [← hA, mkAct_in2 _ _ _ _ rfl rfl]; exact e78
                    refine step_val (v := .int .i64 (first + (jn : Int))) (w' := w') ?_ ⟨rfl, Ext.refl _ _⟩
                    simp [execOp, h69, h78, Result.andThen, go_sem]
                    exact IntWalk.i64_in _ ⟨by omega, by omega⟩
                  case f14_21 =>
                    intro f v g w' hJ hfi hb hd
                    refine arm_u rfl ?_
                    refine op_run rfl ?_
                    have e79 : g 79 = .int .i64 (first + (jn : Int)) := value_u (hd ⟨13, .data⟩ (by simp) rfl) rfl rfl
                    generalize hA : mkAct _ _ g = A
                    have h79 : A.tmps[79]?.getD undef = .int .i64 (first + (jn : Int)) := by rw [← hA, mkAct_in2 _ _ _ _ rfl rfl]; exact e79
                    refine step_val (v := .int .i64 (first + (jn : Int))) (w' := w') ?_ ⟨rfl, Ext.refl _ _⟩
                    simp [execOp, h79, Result.andThen, go_sem]
                intro f v g wn hJ hk
                have e12 : g 12 = .int .i64 (first + (jn : Int)) := value_u (hk 14 (by decide)) rfl rfl
                have HS10 := Hid.of (HS9.out.keep hJ)
                have HP10 := Hid.of (HP9.out.keep hJ (by simp))
                have HB10 := Hid.of (Blk.keep HB9.out hJ List.not_mem_nil)
                have HJn := Hid.of hjn
                clear hk hJ hjn hjnt hnz hnz2 HS9 HP9 HB9
                unfold mkAct; simp only [List.zipIdx_cons, List.zipIdx_nil, List.map_cons, List.map_nil, Nat.zero_add, Nat.reduceAdd, List.contains_cons, List.contains_nil, Nat.reduceBEq, Bool.or_false, Bool.or_true, ↓reduceIte, Bool.false_eq_true]
                obtain ⟨iv, hiv⟩ : ∃ iv, iv = first + (jn : Int) := ⟨_, rfl⟩
                rw [e12, ← hiv]
                have HIv := Hid.of hiv
                have hivb : 1 ≤ iv ∧ iv ≤ 2000 := by omega
                clear e12 hiv
                obtain ⟨w10, hw10⟩ : ∃ w, w = wn := ⟨_, rfl⟩
                rw [← hw10] at HS10 HP10 HB10 ⊢
                clear hw10
                have hlk := HP10.out.lookup iv
                unfold pairK at hlk
                cases hsf : sf iv with
                | some u =>
                  rw [hsf, (HSf.out _).2 u hsf] at hlk
                  simp only [Option.getD_some] at hlk
                  have HSm := Hid.of (HS10.out.sub (O' := mS :: O0) (fun z hz => List.mem_cons_of_mem _ hz) (List.mem_cons_of_mem _ (by rw [HO0.out]; simp)) (List.mem_cons_of_mem _ (by rw [HO0.out]; simp)) (fun z hz => List.mem_cons_of_mem _ (by rw [HO0.out]; simp [hz])))
                  clear hsf HS10 HB10 HJn
                  go_wp2
                  go_roundw
                  case rel => exact ⟨i + 1, eb, mb, V, sf, by go_num, by omega, HSm, HLa, HOp, HP10, HSf⟩
                  case measure => simp [intOf]; omega
                | none => as_aux_lemma =>
                  rw [hsf] at hlk
                  simp only [Option.getD_none] at hlk
                  obtain ⟨he0, hm0⟩ := (HSf.out _).1 hsf
                  obtain ⟨wu, hup, hpu, hxu⟩ := HP10.out.update iv (.bool true) hsf
                  unfold pairK at hup
                  obtain ⟨Oh, hOh⟩ : ∃ O, O = Hb :: mS :: O0 := ⟨_, rfl⟩
                  have HSu : Hid (HmS w0 wq b' q' q' first a' M cap' vm all (fun i => badv (eb i) (mb i)) mB Oh L V wu) := Hid.of (by rw [hOh]; exact HS10.out.other hxu (by simp) HmSn.out.1 HmSn.out.2.1 HmSn.out.2.2.1 HmSn.out.2.2.2)
                  have HPu := Hid.of hpu
                  have HBu := Hid.of (Blk.keep HB10.out hxu (by simpa using HHb.out))
                  have HOh : Hid (Hb ∈ Oh ∧ mS ∈ Oh ∧ (∀ z ∈ mS :: O0, z ∈ Oh)) := Hid.of (by rw [hOh]; exact ⟨by simp, by simp, fun z hz => List.mem_cons_of_mem _ hz⟩)
                  have hLi : L.first + (jn : Int) = iv := by rw [HL3.out.2.2, HIv.out]
                  have hjn2 : jn < all.length := by have := HM.out; omega
                  have hth := HLa.out.there jn hjn2
                  rw [hLi, he0, hm0] at hth
                  have hg1 : (V (L.a iv)).1 = 1 := by rw [hth.1]; rfl
                  have hg2 : (V (L.b iv)).1 = 1 := by rw [hth.2]; rfl
                  obtain ⟨en, hen⟩ : ∃ e, e = enB kw := ⟨_, rfl⟩
                  obtain ⟨mk, hmk⟩ : ∃ e, e = mkB kw := ⟨_, rfl⟩
                  obtain ⟨V2, hV2⟩ : ∃ V', V' = hV L V iv en mk 2 := ⟨_, rfl⟩
                  have cH := fun w' (h : LgX w0 w' q' b' L 19 V Oh) => harm_c h HL3.out.1 HL3.out.2.1 kx kw kt kc HKt.out first M (by omega) (by omega) iv (by rw [HJn.out, HIv.out]) hg1 hg2
                  rw [← hen, ← hmk, ← hV2] at cH
                  have HLa2 : Hid (LaidE L V2 all (harmIf eb en iv) (harmIf mb mk iv)) := Hid.of (by
                    have := HLa.out.harm HAb.out hjn2 en mk
                    rwa [hLi, ← hV2] at this)
                  have HOp2 : Hid (Open9 L V2 all.length) := Hid.of (by
                    have := HOp.out.harm HLa.out.pos HAb.out hjn2 en mk
                    rwa [hLi, ← hV2] at this)
                  have HSf2 : Hid (∀ x, ((if x = iv then some (Value.bool true) else sf x) = none → harmIf eb en iv x = false ∧ harmIf mb mk iv x = false) ∧ (∀ v, (if x = iv then some (Value.bool true) else sf x) = some v → v = .bool true)) := Hid.of (fun x => by
                    by_cases e : x = iv
                    · rw [if_pos e]
                      exact ⟨fun h => (by cases h), fun v hv => (by cases hv; rfl)⟩
                    · rw [if_neg e, harmIf_other _ _ _ _ e, harmIf_other _ _ _ _ e]
                      exact HSf.out x)
                  have HE0 : Hid (eb iv = false ∧ mb iv = false) := Hid.of ⟨he0, hm0⟩
                  clear hOh hpu hxu hLi hth hg1 hg2 hen hmk hV2 he0 hm0 hsf HS10 HP10 HB10 hjn2
                  go_upto_region 24 with fail
                  refine wp_region_u [88, 89, 90, 91, 92, 93, 94, 95, 96, 97, 98, 99, 100, 101, 102, 87, 103, 104, 105, 13, 14, 15] [14] (fun n => match n with | 0 => .agg #[.int .i64 kx, .int .i64 kw, .int .i64 kt, .int .u8 (kc.toNat : Int)] | 1 => .pointer (some ⟨wq, 0, none⟩) | 2 => .pointer (some ⟨wq, 0, none⟩) | 3 => .pointer (some ⟨wq, 0, none⟩) | 4 => .pointer (some ⟨b', 0, none⟩) | 5 => .pointer (some ⟨wq, 0, none⟩) | 6 => .pointer (some ⟨wq, 0, none⟩) | 7 => .pointer (some ⟨wq, 2, none⟩) | 8 => .int .i64 first | 9 => .pointer (some ⟨wq, 0, none⟩) | 10 => .pointer (some ⟨wq, 0, none⟩) | 11 => .pointer (some ⟨wq, 3, none⟩) | 12 => .slice a' M cap' | 13 => .int .i64 (M : Int) | 15 => .tuple #[.int .i64 iv, .bool en, .bool mk] | 16 => .int .i64 iv | 17 => .bool en | 18 => .bool mk | 19 => .int .i64 iv | 20 => .bool en | 21 => .bool mk | _ => undef) (fun f v wx => (f 14 = false → LgX w0 wx q' b' L 19 V Oh) ∧ (f 14 = true → v 14 = .tuple #[.int .i64 iv, .bool en, .bool mk] ∧ LgX w0 wx q' b' L 19 V2 Oh) ∧ Kept Oh wu wx) (by kernel_rfl) (by kernel_rfl) ?hst0_24 ?h00_24 ?hst_24 ?hend_24
                  case hst0_24 =>
                    rintro f v w w' ⟨j1, j2, j3⟩ hx2
                    exact ⟨fun h => (j1 h).keep hx2, fun h => ⟨(j2 h).1, (j2 h).2.keep hx2⟩, j3.trans (Kept.of hx2)⟩
                  case h00_24 =>
                    exact ⟨fun _ => HSu.out.log, fun h => (by cases h), Kept.refl _ _⟩
                  case hst_24 =>
                    refine ⟨?f0_24, ?f1_24, ?f2_24, ?f3_24, ?f4_24, ?f5_24, ?f6_24, ?f7_24, ?f8_24, ?f9_24, ?f10_24, ?f11_24, ?f12_24, ?f13_24, ?f14_24, ?f15_24, ?f16_24, ?f17_24, ?f18_24, ?f19_24, ?f20_24, ?f21_24, trivial⟩
                    case f0_24 =>
                      intro f v g w' hJ hfi hb hd
                      refine arm_u rfl ?_
                      refine op_run rfl ?_
                      generalize hA : mkAct _ _ g = A
                      have h11 : A.tmps[11]?.getD undef = .pointer (some ⟨Hb, 0, none⟩) := by rw [← hA]; exact mkAct_out2 _ _ _ _ _ rfl rfl
                      obtain ⟨d0, d1, d2, d3⟩ := row4H (hJ.2.2.blk HBu.out HOh.out.1)
                      refine step_val (v := .agg #[.int .i64 kx, .int .i64 kw, .int .i64 kt, .int .u8 (kc.toNat : Int)]) (w' := w') ?_ ⟨rfl, Ext.refl _ _⟩
                      simp [execOp, h11, d0, d1, d2, d3, Result.andThen, go_sem]
                    case f1_24 =>
                      intro f v g w' hJ hfi hb hd
                      refine arm_u rfl ?_
                      refine op_run rfl ?_
                      generalize hA : mkAct _ _ g = A
                      have h5 : A.tmps[5]?.getD undef = .pointer (some ⟨wq, 0, none⟩) := by rw [← hA]; exact mkAct_out2 _ _ _ _ _ rfl rfl
                      refine step_val (v := .pointer (some ⟨wq, 0, none⟩)) (w' := w') ?_ ⟨rfl, Ext.refl _ _⟩
                      simp [execOp, h5, Result.andThen, go_sem]
                    case f2_24 =>
                      intro f v g w' hJ hfi hb hd
                      refine arm_u rfl ?_
                      refine op_run rfl ?_
                      have e89 : g 89 = .pointer (some ⟨wq, 0, none⟩) := value_u (hd ⟨1, .data⟩ (by simp) rfl) rfl rfl
                      generalize hA : mkAct _ _ g = A
                      have h89 : A.tmps[89]?.getD undef = .pointer (some ⟨wq, 0, none⟩) := by rw [← hA, mkAct_in2 _ _ _ _ rfl rfl]; exact e89
                      refine step_val (v := .pointer (some ⟨wq, 0, none⟩)) (w' := w') ?_ ⟨rfl, Ext.refl _ _⟩
                      simp [execOp, h89, Result.andThen, go_sem]
                    case f3_24 =>
                      intro f v g w' hJ hfi hb hd
                      refine arm_u rfl ?_
                      refine op_run rfl ?_
                      have e90 : g 90 = .pointer (some ⟨wq, 0, none⟩) := value_u (hd ⟨2, .data⟩ (by simp) rfl) rfl rfl
                      generalize hA : mkAct _ _ g = A
                      have h90 : A.tmps[90]?.getD undef = .pointer (some ⟨wq, 0, none⟩) := by rw [← hA, mkAct_in2 _ _ _ _ rfl rfl]; exact e90
                      refine step_val (v := .pointer (some ⟨wq, 0, none⟩)) (w' := w') ?_ ⟨rfl, Ext.refl _ _⟩
                      simp [execOp, h90, Result.andThen, go_sem]
                    case f4_24 =>
                      intro f v g w' hJ hfi hb hd
                      refine arm_u rfl ?_
                      refine op_run rfl ?_
                      have e91 : g 91 = .pointer (some ⟨wq, 0, none⟩) := value_u (hd ⟨3, .data⟩ (by simp) rfl) rfl rfl
                      generalize hA : mkAct _ _ g = A
                      have h91 : A.tmps[91]?.getD undef = .pointer (some ⟨wq, 0, none⟩) := by rw [← hA, mkAct_in2 _ _ _ _ rfl rfl]; exact e91
                      have c := (Blk.c (hJ.2.2.blk HSu.out.blk HSu.out.wO) 0 : w'.cell? ⟨wq, 0, none⟩ = some (.pointer (some ⟨b', 0, none⟩)))
                      refine step_val (v := .pointer (some ⟨b', 0, none⟩)) (w' := w') ?_ ⟨rfl, Ext.refl _ _⟩
                      simp [execOp, h91, c, Result.andThen, go_sem]
                    case f5_24 =>
                      intro f v g w' hJ hfi hb hd
                      refine arm_u rfl ?_
                      refine op_run rfl ?_
                      generalize hA : mkAct _ _ g = A
                      have h5 : A.tmps[5]?.getD undef = .pointer (some ⟨wq, 0, none⟩) := by rw [← hA]; exact mkAct_out2 _ _ _ _ _ rfl rfl
                      refine step_val (v := .pointer (some ⟨wq, 0, none⟩)) (w' := w') ?_ ⟨rfl, Ext.refl _ _⟩
                      simp [execOp, h5, Result.andThen, go_sem]
                    case f6_24 =>
                      intro f v g w' hJ hfi hb hd
                      refine arm_u rfl ?_
                      refine op_run rfl ?_
                      have e93 : g 93 = .pointer (some ⟨wq, 0, none⟩) := value_u (hd ⟨5, .data⟩ (by simp) rfl) rfl rfl
                      generalize hA : mkAct _ _ g = A
                      have h93 : A.tmps[93]?.getD undef = .pointer (some ⟨wq, 0, none⟩) := by rw [← hA, mkAct_in2 _ _ _ _ rfl rfl]; exact e93
                      refine step_val (v := .pointer (some ⟨wq, 0, none⟩)) (w' := w') ?_ ⟨rfl, Ext.refl _ _⟩
                      simp [execOp, h93, Result.andThen, go_sem]
                    case f7_24 =>
                      intro f v g w' hJ hfi hb hd
                      refine arm_u rfl ?_
                      refine op_run rfl ?_
                      have e94 : g 94 = .pointer (some ⟨wq, 0, none⟩) := value_u (hd ⟨6, .data⟩ (by simp) rfl) rfl rfl
                      generalize hA : mkAct _ _ g = A
                      have h94 : A.tmps[94]?.getD undef = .pointer (some ⟨wq, 0, none⟩) := by rw [← hA, mkAct_in2 _ _ _ _ rfl rfl]; exact e94
                      refine step_val (v := .pointer (some ⟨wq, 2, none⟩)) (w' := w') ?_ ⟨rfl, Ext.refl _ _⟩
                      simp [execOp, h94, Result.andThen, go_sem]
                    case f8_24 =>
                      intro f v g w' hJ hfi hb hd
                      refine arm_u rfl ?_
                      refine op_run rfl ?_
                      have e95 : g 95 = .pointer (some ⟨wq, 2, none⟩) := value_u (hd ⟨7, .data⟩ (by simp) rfl) rfl rfl
                      generalize hA : mkAct _ _ g = A
                      have h95 : A.tmps[95]?.getD undef = .pointer (some ⟨wq, 2, none⟩) := by rw [← hA, mkAct_in2 _ _ _ _ rfl rfl]; exact e95
                      have c := (Blk.c (hJ.2.2.blk HSu.out.blk HSu.out.wO) 2 : w'.cell? ⟨wq, 2, none⟩ = some (.int .i64 first))
                      refine step_val (v := .int .i64 first) (w' := w') ?_ ⟨rfl, Ext.refl _ _⟩
                      simp [execOp, h95, c, Result.andThen, go_sem]
                    case f9_24 =>
                      intro f v g w' hJ hfi hb hd
                      refine arm_u rfl ?_
                      refine op_run rfl ?_
                      generalize hA : mkAct _ _ g = A
                      have h5 : A.tmps[5]?.getD undef = .pointer (some ⟨wq, 0, none⟩) := by rw [← hA]; exact mkAct_out2 _ _ _ _ _ rfl rfl
                      refine step_val (v := .pointer (some ⟨wq, 0, none⟩)) (w' := w') ?_ ⟨rfl, Ext.refl _ _⟩
                      simp [execOp, h5, Result.andThen, go_sem]
                    case f10_24 =>
                      intro f v g w' hJ hfi hb hd
                      refine arm_u rfl ?_
                      refine op_run rfl ?_
                      have e97 : g 97 = .pointer (some ⟨wq, 0, none⟩) := value_u (hd ⟨9, .data⟩ (by simp) rfl) rfl rfl
                      generalize hA : mkAct _ _ g = A
                      have h97 : A.tmps[97]?.getD undef = .pointer (some ⟨wq, 0, none⟩) := by rw [← hA, mkAct_in2 _ _ _ _ rfl rfl]; exact e97
                      refine step_val (v := .pointer (some ⟨wq, 0, none⟩)) (w' := w') ?_ ⟨rfl, Ext.refl _ _⟩
                      simp [execOp, h97, Result.andThen, go_sem]
                    case f11_24 =>
                      intro f v g w' hJ hfi hb hd
                      refine arm_u rfl ?_
                      refine op_run rfl ?_
                      have e98 : g 98 = .pointer (some ⟨wq, 0, none⟩) := value_u (hd ⟨10, .data⟩ (by simp) rfl) rfl rfl
                      generalize hA : mkAct _ _ g = A
                      have h98 : A.tmps[98]?.getD undef = .pointer (some ⟨wq, 0, none⟩) := by rw [← hA, mkAct_in2 _ _ _ _ rfl rfl]; exact e98
                      refine step_val (v := .pointer (some ⟨wq, 3, none⟩)) (w' := w') ?_ ⟨rfl, Ext.refl _ _⟩
                      simp [execOp, h98, Result.andThen, go_sem]
                    case f12_24 =>
                      intro f v g w' hJ hfi hb hd
                      refine arm_u rfl ?_
                      refine op_run rfl ?_
                      have e99 : g 99 = .pointer (some ⟨wq, 3, none⟩) := value_u (hd ⟨11, .data⟩ (by simp) rfl) rfl rfl
                      generalize hA : mkAct _ _ g = A
                      have h99 : A.tmps[99]?.getD undef = .pointer (some ⟨wq, 3, none⟩) := by rw [← hA, mkAct_in2 _ _ _ _ rfl rfl]; exact e99
                      have c := (Blk.c (hJ.2.2.blk HSu.out.blk HSu.out.wO) 3 : w'.cell? ⟨wq, 3, none⟩ = some (.slice a' M cap'))
                      refine step_val (v := .slice a' M cap') (w' := w') ?_ ⟨rfl, Ext.refl _ _⟩
                      simp [execOp, h99, c, Result.andThen, go_sem]
                    case f13_24 =>
                      intro f v g w' hJ hfi hb hd
                      refine arm_u rfl ?_
                      refine op_run rfl ?_
                      have e100 : g 100 = .slice a' M cap' := value_u (hd ⟨12, .data⟩ (by simp) rfl) rfl rfl
                      generalize hA : mkAct _ _ g = A
                      have h100 : A.tmps[100]?.getD undef = .slice a' M cap' := by rw [← hA, mkAct_in2 _ _ _ _ rfl rfl]; exact e100
                      refine step_val (v := .int .i64 (M : Int)) (w' := w') ?_ ⟨rfl, Ext.refl _ _⟩
                      simp [execOp, h100, Result.andThen, go_sem]
                    case f14_24 =>
                      intro f v g w' hJ hfi hb hd
                      refine arms_u rfl ?_
                      refine op_run rfl ?_
                      have e88 : g 88 = .agg #[.int .i64 kx, .int .i64 kw, .int .i64 kt, .int .u8 (kc.toNat : Int)] := value_u (hd ⟨0, .data⟩ (by simp) rfl) rfl rfl
                      have e92 : g 92 = .pointer (some ⟨b', 0, none⟩) := value_u (hd ⟨4, .data⟩ (by simp) rfl) rfl rfl
                      have e96 : g 96 = .int .i64 first := value_u (hd ⟨8, .data⟩ (by simp) rfl) rfl rfl
                      have e101 : g 101 = .int .i64 (M : Int) := value_u (hd ⟨13, .data⟩ (by simp) rfl) rfl rfl
                      generalize hA : mkAct _ _ g = A
                      have h88 : A.tmps[88]?.getD undef = .agg #[.int .i64 kx, .int .i64 kw, .int .i64 kt, .int .u8 (kc.toNat : Int)] := by rw [← hA, mkAct_in2 _ _ _ _ rfl rfl]; exact e88
                      have h92 : A.tmps[92]?.getD undef = .pointer (some ⟨b', 0, none⟩) := by rw [← hA, mkAct_in2 _ _ _ _ rfl rfl]; exact e92
                      have h96 : A.tmps[96]?.getD undef = .int .i64 first := by rw [← hA, mkAct_in2 _ _ _ _ rfl rfl]; exact e96
                      have h101 : A.tmps[101]?.getD undef = .int .i64 (M : Int) := by rw [← hA, mkAct_in2 _ _ _ _ rfl rfl]; exact e101
                      refine mid_u (fun K hK => ?_)
                      go_simp
                      refine (cH w' (hJ.1 hfi)).mono ?_
                      rintro e w2 ⟨rfl, hl2, hk2⟩
                      exact hK (.tuple #[.int .i64 iv, .bool en, .bool mk]) w2 ⟨fun h => (by cases h), fun _ => ⟨setU_same _ _ _, hl2⟩, hJ.2.2.trans hk2⟩
                    case f15_24 =>
                      intro f v g w' hJ hfi hb hd
                      refine arm_u rfl ?_
                      refine op_run rfl ?_
                      obtain ⟨hf102, e102⟩ := special_u (hd ⟨14, .data⟩ (by simp) rfl) rfl rfl
                      replace e102 : g 102 = v 14 := e102
                      have e102x := (hJ.2.1 hf102).1
                      rw [e102x] at e102
                      generalize hA : mkAct _ _ g = A
                      have h102 : A.tmps[102]?.getD undef = .tuple #[.int .i64 iv, .bool en, .bool mk] := by rw [← hA, mkAct_in2 _ _ _ _ rfl rfl]; exact e102
                      refine step_val (v := .tuple #[.int .i64 iv, .bool en, .bool mk]) (w' := w') ?_ ⟨rfl, Ext.refl _ _⟩
                      simp [execOp, h102, Result.andThen, go_sem]
                    case f16_24 =>
                      intro f v g w' hJ hfi hb hd
                      refine arm_u rfl ?_
                      refine op_run rfl ?_
                      have e87 : g 87 = .tuple #[.int .i64 iv, .bool en, .bool mk] := value_u (hd ⟨15, .data⟩ (by simp) rfl) rfl rfl
                      generalize hA : mkAct _ _ g = A
                      have h87 : A.tmps[87]?.getD undef = .tuple #[.int .i64 iv, .bool en, .bool mk] := by rw [← hA, mkAct_in2 _ _ _ _ rfl rfl]; exact e87
                      refine step_val (v := .int .i64 iv) (w' := w') ?_ ⟨rfl, Ext.refl _ _⟩
                      simp [execOp, h87, Result.andThen, go_sem]
                    case f17_24 =>
                      intro f v g w' hJ hfi hb hd
                      refine arm_u rfl ?_
                      refine op_run rfl ?_
                      have e87 : g 87 = .tuple #[.int .i64 iv, .bool en, .bool mk] := value_u (hd ⟨15, .data⟩ (by simp) rfl) rfl rfl
                      generalize hA : mkAct _ _ g = A
                      have h87 : A.tmps[87]?.getD undef = .tuple #[.int .i64 iv, .bool en, .bool mk] := by rw [← hA, mkAct_in2 _ _ _ _ rfl rfl]; exact e87
                      refine step_val (v := .bool en) (w' := w') ?_ ⟨rfl, Ext.refl _ _⟩
                      simp [execOp, h87, Result.andThen, go_sem]
                    case f18_24 =>
                      intro f v g w' hJ hfi hb hd
                      refine arm_u rfl ?_
                      refine op_run rfl ?_
                      have e87 : g 87 = .tuple #[.int .i64 iv, .bool en, .bool mk] := value_u (hd ⟨15, .data⟩ (by simp) rfl) rfl rfl
                      generalize hA : mkAct _ _ g = A
                      have h87 : A.tmps[87]?.getD undef = .tuple #[.int .i64 iv, .bool en, .bool mk] := by rw [← hA, mkAct_in2 _ _ _ _ rfl rfl]; exact e87
                      refine step_val (v := .bool mk) (w' := w') ?_ ⟨rfl, Ext.refl _ _⟩
                      simp [execOp, h87, Result.andThen, go_sem]
                    case f19_24 =>
                      intro f v g w' hJ hfi hb hd
                      refine arm_u rfl ?_
                      refine op_run rfl ?_
                      have e103 : g 103 = .int .i64 iv := value_u (hd ⟨16, .data⟩ (by simp) rfl) rfl rfl
                      generalize hA : mkAct _ _ g = A
                      have h103 : A.tmps[103]?.getD undef = .int .i64 iv := by rw [← hA, mkAct_in2 _ _ _ _ rfl rfl]; exact e103
                      refine step_val (v := .int .i64 iv) (w' := w') ?_ ⟨rfl, Ext.refl _ _⟩
                      simp [execOp, h103, Result.andThen, go_sem]
                    case f20_24 =>
                      intro f v g w' hJ hfi hb hd
                      refine arm_u rfl ?_
                      refine op_run rfl ?_
                      have e104 : g 104 = .bool en := value_u (hd ⟨17, .data⟩ (by simp) rfl) rfl rfl
                      generalize hA : mkAct _ _ g = A
                      have h104 : A.tmps[104]?.getD undef = .bool en := by rw [← hA, mkAct_in2 _ _ _ _ rfl rfl]; exact e104
                      refine step_val (v := .bool en) (w' := w') ?_ ⟨rfl, Ext.refl _ _⟩
                      simp [execOp, h104, Result.andThen, go_sem]
                    case f21_24 =>
                      intro f v g w' hJ hfi hb hd
                      refine arm_u rfl ?_
                      refine op_run rfl ?_
                      have e105 : g 105 = .bool mk := value_u (hd ⟨18, .data⟩ (by simp) rfl) rfl rfl
                      generalize hA : mkAct _ _ g = A
                      have h105 : A.tmps[105]?.getD undef = .bool mk := by rw [← hA, mkAct_in2 _ _ _ _ rfl rfl]; exact e105
                      refine step_val (v := .bool mk) (w' := w') ?_ ⟨rfl, Ext.refl _ _⟩
                      simp [execOp, h105, Result.andThen, go_sem]
                  intro f v g wn hJ hk
                  have e13 : g 13 = .int .i64 iv := value_u (hk 19 (by decide)) rfl rfl
                  have e14 : g 14 = .bool en := value_u (hk 20 (by decide)) rfl rfl
                  have e15 : g 15 = .bool mk := value_u (hk 21 (by decide)) rfl rfl
                  have hf14 : f 14 = true := ((hk 14 (by decide)).2 rfl).1
                  have HSn := Hid.of (HSu.out.turn (hJ.2.1 hf14).2 hJ.2.2)
                  have HPn := Hid.of (HPu.out.same (fun o ho => hJ.2.2 mS HOh.out.2.1 o ho))
                  clear hk hJ hf14 cH HSu HPu HBu hup hlk HJn
                  unfold mkAct; simp only [List.zipIdx_cons, List.zipIdx_nil, List.map_cons, List.map_nil, Nat.zero_add, Nat.reduceAdd, List.contains_cons, List.contains_nil, Nat.reduceBEq, Bool.or_false, Bool.or_true, ↓reduceIte, Bool.false_eq_true]
                  rw [e13, e14, e15]
                  clear e13 e14 e15
                  obtain ⟨w11, hw11⟩ : ∃ w, w = wn := ⟨_, rfl⟩
                  rw [← hw11] at HSn HPn ⊢
                  clear hw11
                  have HZs : Hid (wq ∈ mS :: O0 ∧ mB ∈ mS :: O0 ∧ ∀ z ∈ vblocks (.slice a' M cap'), z ∈ mS :: O0) := Hid.of ⟨by rw [HO0.out]; simp, by rw [HO0.out]; simp, fun z hz => by rw [HO0.out]; simp [hz]⟩
                  cases en with
                  | false =>
                    have HSm := Hid.of ((HSn.out.cast (bv' := fun x => badv (harmIf eb false iv x) (harmIf mb mk iv x)) (fun x => by
                      have e0 : harmIf eb false iv x = eb x := rfl
                      rw [e0]
                      by_cases e : x = iv
                      · rw [e, HE0.out.1]; rfl
                      · rw [harmIf_other _ _ _ _ e])).sub HOh.out.2.2 HZs.out.1 HZs.out.2.1 HZs.out.2.2)
                    go_wp2
                    go_roundw
                    case rel => exact ⟨i + 1, _, _, V2, _, by go_num, by omega, HSm, HLa2, HOp2, HPn, HSf2⟩
                    case measure => simp [intOf]; omega
                  | true =>
                    obtain ⟨w12, hup1, hm1, hx12⟩ := HSn.out.bad.update (P := Try.prog) Try.underlying45 Try.underlying3 iv (.int .i64 1)
                    have HS12 := Hid.of (HSn.out.setB (bv' := fun x => if x = iv then 1 else badv (eb x) (mb x)) hx12 (hm1.cast (fun x => by unfold updV; simp only; split <;> rfl)))
                    have HP12 := Hid.of (HPn.out.keep hx12 (by simpa using HmSn.out.2.2.1))
                    clear hm1 hx12 HSn HPn
                    cases mk with
                    | false =>
                      have HSm := Hid.of ((HS12.out.cast (bv' := fun x => badv (harmIf eb true iv x) (harmIf mb false iv x)) (fun x => by
                        have e0 : harmIf mb false iv x = mb x := rfl
                        rw [e0]
                        by_cases e : x = iv
                        · rw [if_pos e, e, harmIf_at _ _ _ HE0.out.1, HE0.out.2]; rfl
                        · rw [if_neg e, harmIf_other _ _ _ _ e])).sub HOh.out.2.2 HZs.out.1 HZs.out.2.1 HZs.out.2.2)
                      go_wp2
                      go_roundw
                      case rel => exact ⟨i + 1, _, _, V2, _, by go_num, by omega, HSm, HLa2, HOp2, HP12, HSf2⟩
                      case measure => simp [intOf]; omega
                    | true =>
                      obtain ⟨w13, hup2, hm2, hx13⟩ := HS12.out.bad.update (P := Try.prog) Try.underlying45 Try.underlying3 iv (.int .i64 2)
                      have HSm := Hid.of (((HS12.out.setB (bv' := fun x => if x = iv then 2 else badv (eb x) (mb x)) hx13 (hm2.cast (fun x => by unfold updV; simp only; by_cases e : x = iv; rw [if_pos e, if_pos e]; rw [if_neg e, if_neg e, if_neg e]))).cast (bv' := fun x => badv (harmIf eb true iv x) (harmIf mb true iv x)) (fun x => by
                        by_cases e : x = iv
                        · rw [if_pos e, e, harmIf_at _ _ _ HE0.out.1, harmIf_at _ _ _ HE0.out.2]; rfl
                        · rw [if_neg e, harmIf_other _ _ _ _ e, harmIf_other _ _ _ _ e])).sub HOh.out.2.2 HZs.out.1 HZs.out.2.1 HZs.out.2.2)
                      have HP13 := Hid.of (HP12.out.keep hx13 (by simpa using HmSn.out.2.2.1))
                      clear hm2 hx13 HS12 HP12
                      go_wp2
                      go_roundw
                      case rel => exact ⟨i + 1, _, _, V2, _, by go_num, by omega, HSm, HLa2, HOp2, HP13, HSf2⟩
                      case measure => simp [intOf]; omega
              · go_wp2_with fail
                go_meet
                exact ⟨eb, mb, V, HS.out.sub (fun z hz => List.mem_cons_of_mem _ hz) (by rw [HO0.out]; simp) (by rw [HO0.out]; simp) (fun z hz => by rw [HO0.out]; simp [hz]), HLa, HOp⟩
        case rest => as_aux_lemma =>
          clear HS7 HHR HHok HHl HR HOk HL HFew hl30 h10d h10
          obtain ⟨eb, mb, V, HS, HLa, HOp⟩ := hcut
          obtain ⟨w8, hw8⟩ : ∃ w, w = wc := ⟨_, rfl⟩
          rw [← hw8] at HS ⊢
          clear hw8
          have c1 := HS.out.c1
          go_wp2_with fail
          refine HS.out.log.scrub.mono ?_
          rintro e w9 ⟨rfl, hl9, hk9⟩
          obtain ⟨L1, hL1⟩ : ∃ L', L' = L.scr V (L.last + 1) := ⟨_, rfl⟩
          have ht := HSo.out.scr HLa.out
          rw [← hL1] at hl9 ht
          have HL1 : Hid (L1.base = 3 ∧ L1.size = 8 ∧ L1.first = first) := Hid.of (by rw [hL1]; exact HL3.out)
          have HOp1 : Hid (Open9 L1 V all.length) := Hid.of (by rw [hL1]; exact HOp.out)
          have HS9 := Hid.of (HS.out.turn hl9 hk9)
          have HT := Hid.of ht
          clear hl9 hk9 ht hL1 c1 HS HLa HOp HSo HL3 HAb
          have c3 := HS9.out.c3
          go_wp2_with fail
          clear c3
          go_loopw [16, 123] (fun u16 u123 wr => ∃ (k : Nat) (r : Int), u16 = .int .i64 r ∧ u123 = .int .i64 (k : Int) ∧ k ≤ M ∧ Hid (LeastBad first (k : Int) eb r) ∧ Hid (HmS w0 wq b' q' q' first a' M cap' vm all (fun i => badv (eb i) (mb i)) mB O0 L1 V wr)) (fun _ u123 _ => M - (intOf u123).toNat)
          case atStart => exact ⟨0, 0, rfl, rfl, by omega, Hid.of (.inl ⟨rfl, fun i h1 h2 => by omega⟩), HS9⟩
          case round => as_aux_lemma =>
            clear HS9
            obtain ⟨k, r, rfl, rfl, hk, HLb, HS⟩ := hrel
            by_cases hkM : k < M
            · as_aux_lemma =>
              have hka : k < all.length := by have := HM.out; omega
              have hT := HT.out.read k hka (hAO.out _ (List.getElem_mem _)).1
              rw [HL1.out.2.2] at hT
              have hxi := HT.out.laid.idx k hka
              rw [HL1.out.2.2] at hxi
              have hok := hAO.out all[k] (List.getElem_mem _)
              obtain ⟨zg, zo, x, hza, hxk, d0, d1, d2⟩ := HS.out.ent k hkM
              have hxe : all[k] = x := (List.getElem?_eq_some_iff.1 hxk).2
              rw [hxe] at hT hxi hok
              subst hza
              obtain ⟨xi, xt, xd⟩ := x
              simp only at hT hxi hok d0 d1 d2
              subst hxi
              obtain ⟨Xb, hXb⟩ : ∃ x, x = wr.heap.size := ⟨_, rfl⟩
              obtain ⟨w10, hw10⟩ : ∃ W, W = wr.alloc (.cells #[.int .i64 (first + (k : Int)), .int .i64 xt, .string ⟨xd.toArray⟩] 37) := ⟨_, rfl⟩
              have hx10 : Ext [] wr w10 := by rw [hw10]; exact (Ext.refl _ _).alloc _
              have hb10 : Blk w10 Xb 37 [.int .i64 (first + (k : Int)), .int .i64 xt, .string ⟨xd.toArray⟩] := by rw [hw10]; exact Blk.newg hXb.symm
              obtain ⟨Oh, hOh⟩ : ∃ O, O = Xb :: O0 := ⟨_, rfl⟩
              have HS10 : Hid (HmS w0 wq b' q' q' first (some ⟨zg, zo, none⟩) M cap' vm all (fun i => badv (eb i) (mb i)) mB Oh L1 V w10) := Hid.of (by rw [hOh]; exact HS.out.add hx10 Xb (by omega) (Blk.lt hb10))
              have HB10 := Hid.of hb10
              have HOh : Hid (Xb ∈ Oh ∧ ∀ z ∈ O0, z ∈ Oh) := Hid.of (by rw [hOh]; exact ⟨by simp, fun z hz => List.mem_cons_of_mem _ hz⟩)
              have hok1 := hok.1
              have hok2 := hok.2.1
              clear hx10 hb10 hOh hxk hxe hka hok
              go_upto_region 35 with fail
              rw [← hXb, ← hw10]
              clear hXb hw10 d0 d1 d2 HS
              obtain ⟨hT1, hT2⟩ := hT
              obtain ⟨ye, hye⟩ : ∃ y, y = answers ⟨first + (k : Int), xt, xd⟩ (eb (first + (k : Int))) true := ⟨_, rfl⟩
              rw [← hye] at hT1
              have HAn := Hid.of hye
              obtain ⟨⟨yi, yt, yd⟩, st⟩ := ye
              have cR : ∀ w' O', LgX w0 w' q' b' L1 19 V O' → Calls Try.prog 18 #[.pointer (some ⟨q', 0, none⟩), .int .i64 (first + (k : Int))] w' fun e w2 => e = .returned (.tuple #[.agg #[.int .i64 yi, .int .i64 yt, .string ⟨yd.toArray⟩], .int .i64 st]) ∧ LgX w0 w2 q' b' L1 19 V O' ∧ Kept O' w' w2 := by
                intro w' O' h
                have := h.read (first + (k : Int))
                rw [hT1, hT2] at this
                exact this
              clear hT1 hT2 hye
              refine wp_region_u [129, 130, 131, 132, 133, 134, 135, 136, 137, 138, 139, 128, 140, 141, 19, 20] [10, 14, 15] (fun n => match n with | 0 => .pointer (some ⟨wq, 0, none⟩) | 1 => .pointer (some ⟨wq, 0, none⟩) | 2 => .pointer (some ⟨wq, 1, none⟩) | 3 => .pointer (some ⟨q', 0, none⟩) | 4 => .pointer (some ⟨wq, 0, none⟩) | 5 => .pointer (some ⟨wq, 0, none⟩) | 6 => .pointer (some ⟨wq, 2, none⟩) | 7 => .int .i64 first | 8 => .int .i64 (k : Int) | 9 => .int .i64 (first + (k : Int)) | 11 => .tuple #[.agg #[.int .i64 yi, .int .i64 yt, .string ⟨yd.toArray⟩], .int .i64 st] | 12 => .agg #[.int .i64 yi, .int .i64 yt, .string ⟨yd.toArray⟩] | 13 => .int .i64 st | 16 => .int .i64 st | _ => undef) (fun f v wx => ∃ X : List Nat, LgX w0 wx q' b' L1 19 V (X ++ Oh) ∧ Kept Oh w10 wx ∧ (f 10 = true → v 10 = .tuple #[.agg #[.int .i64 yi, .int .i64 yt, .string ⟨yd.toArray⟩], .int .i64 st]) ∧ (f 14 = true → ∃ G, v 14 = .pointer (some ⟨G, 0, none⟩) ∧ G ∈ X ∧ G ∉ Oh ∧ w0.heap.size ≤ G ∧ (f 15 = false → Blk wx G 37 [.int .i64 0, .int .i64 0, .string ⟨#[]⟩]) ∧ (f 15 = true → Blk wx G 37 [.int .i64 yi, .int .i64 yt, .string ⟨yd.toArray⟩]))) (by kernel_rfl) (by kernel_rfl) ?hst0_35 ?h00_35 ?hst_35 ?hend_35
              case hst0_35 =>
                rintro f v w w' ⟨X, j1, j2, j3, j4⟩ hx2
                refine ⟨X, j1.keep hx2, j2.trans (Kept.of hx2), j3, fun h => ?_⟩
                obtain ⟨G, eG, hGX, hGO, hGw, jz, jn⟩ := j4 h
                exact ⟨G, eG, hGX, hGO, hGw, fun h8 => Blk.keep (jz h8) hx2 List.not_mem_nil, fun h8 => Blk.keep (jn h8) hx2 List.not_mem_nil⟩
              case h00_35 =>
                exact ⟨[], HS10.out.log, Kept.refl _ _, fun h => (by cases h), fun h => (by cases h)⟩
              case hst_35 =>
                refine ⟨?f0_35, ?f1_35, ?f2_35, ?f3_35, ?f4_35, ?f5_35, ?f6_35, ?f7_35, ?f8_35, ?f9_35, ?f10_35, ?f11_35, ?f12_35, ?f13_35, ?f14_35, ?f15_35, ?f16_35, trivial⟩
                case f0_35 =>
                  intro f v g w' hJ hfi hb hd
                  refine arm_u rfl ?_
                  refine op_run rfl ?_
                  generalize hA : mkAct _ _ g = A
                  have h5 : A.tmps[5]?.getD undef = .pointer (some ⟨wq, 0, none⟩) := by rw [← hA]; exact mkAct_out2 _ _ _ _ _ rfl rfl
                  refine step_val (v := .pointer (some ⟨wq, 0, none⟩)) (w' := w') ?_ ⟨rfl, Ext.refl _ _⟩
                  simp [execOp, h5, Result.andThen, go_sem]
                case f1_35 =>
                  intro f v g w' hJ hfi hb hd
                  refine arm_u rfl ?_
                  refine op_run rfl ?_
                  have e129 : g 129 = .pointer (some ⟨wq, 0, none⟩) := value_u (hd ⟨0, .data⟩ (by simp) rfl) rfl rfl
                  generalize hA : mkAct _ _ g = A
                  have h129 : A.tmps[129]?.getD undef = .pointer (some ⟨wq, 0, none⟩) := by rw [← hA, mkAct_in2 _ _ _ _ rfl rfl]; exact e129
                  refine step_val (v := .pointer (some ⟨wq, 0, none⟩)) (w' := w') ?_ ⟨rfl, Ext.refl _ _⟩
                  simp [execOp, h129, Result.andThen, go_sem]
                case f2_35 =>
                  intro f v g w' hJ hfi hb hd
                  refine arm_u rfl ?_
                  refine op_run rfl ?_
                  have e130 : g 130 = .pointer (some ⟨wq, 0, none⟩) := value_u (hd ⟨1, .data⟩ (by simp) rfl) rfl rfl
                  generalize hA : mkAct _ _ g = A
                  have h130 : A.tmps[130]?.getD undef = .pointer (some ⟨wq, 0, none⟩) := by rw [← hA, mkAct_in2 _ _ _ _ rfl rfl]; exact e130
                  refine step_val (v := .pointer (some ⟨wq, 1, none⟩)) (w' := w') ?_ ⟨rfl, Ext.refl _ _⟩
                  simp [execOp, h130, Result.andThen, go_sem]
                case f3_35 =>
                  intro f v g w' hJ hfi hb hd
                  refine arm_u rfl ?_
                  refine op_run rfl ?_
                  have e131 : g 131 = .pointer (some ⟨wq, 1, none⟩) := value_u (hd ⟨2, .data⟩ (by simp) rfl) rfl rfl
                  generalize hA : mkAct _ _ g = A
                  have h131 : A.tmps[131]?.getD undef = .pointer (some ⟨wq, 1, none⟩) := by rw [← hA, mkAct_in2 _ _ _ _ rfl rfl]; exact e131
                  have c := (Blk.c (hJ.elim (fun X h => h.2.1.blk HS10.out.blk HS10.out.wO)) 1 : w'.cell? ⟨wq, 1, none⟩ = some (.pointer (some ⟨q', 0, none⟩)))
                  refine step_val (v := .pointer (some ⟨q', 0, none⟩)) (w' := w') ?_ ⟨rfl, Ext.refl _ _⟩
                  simp [execOp, h131, c, Result.andThen, go_sem]
                case f4_35 =>
                  intro f v g w' hJ hfi hb hd
                  refine arm_u rfl ?_
                  refine op_run rfl ?_
                  generalize hA : mkAct _ _ g = A
                  have h5 : A.tmps[5]?.getD undef = .pointer (some ⟨wq, 0, none⟩) := by rw [← hA]; exact mkAct_out2 _ _ _ _ _ rfl rfl
                  refine step_val (v := .pointer (some ⟨wq, 0, none⟩)) (w' := w') ?_ ⟨rfl, Ext.refl _ _⟩
                  simp [execOp, h5, Result.andThen, go_sem]
                case f5_35 =>
                  intro f v g w' hJ hfi hb hd
                  refine arm_u rfl ?_
                  refine op_run rfl ?_
                  have e133 : g 133 = .pointer (some ⟨wq, 0, none⟩) := value_u (hd ⟨4, .data⟩ (by simp) rfl) rfl rfl
                  generalize hA : mkAct _ _ g = A
                  have h133 : A.tmps[133]?.getD undef = .pointer (some ⟨wq, 0, none⟩) := by rw [← hA, mkAct_in2 _ _ _ _ rfl rfl]; exact e133
                  refine step_val (v := .pointer (some ⟨wq, 0, none⟩)) (w' := w') ?_ ⟨rfl, Ext.refl _ _⟩
                  simp [execOp, h133, Result.andThen, go_sem]
                case f6_35 =>
                  intro f v g w' hJ hfi hb hd
                  refine arm_u rfl ?_
                  refine op_run rfl ?_
                  have e134 : g 134 = .pointer (some ⟨wq, 0, none⟩) := value_u (hd ⟨5, .data⟩ (by simp) rfl) rfl rfl
                  generalize hA : mkAct _ _ g = A
                  have h134 : A.tmps[134]?.getD undef = .pointer (some ⟨wq, 0, none⟩) := by rw [← hA, mkAct_in2 _ _ _ _ rfl rfl]; exact e134
                  refine step_val (v := .pointer (some ⟨wq, 2, none⟩)) (w' := w') ?_ ⟨rfl, Ext.refl _ _⟩
                  simp [execOp, h134, Result.andThen, go_sem]
                case f7_35 =>
                  intro f v g w' hJ hfi hb hd
                  refine arm_u rfl ?_
                  refine op_run rfl ?_
                  have e135 : g 135 = .pointer (some ⟨wq, 2, none⟩) := value_u (hd ⟨6, .data⟩ (by simp) rfl) rfl rfl
                  generalize hA : mkAct _ _ g = A
                  have h135 : A.tmps[135]?.getD undef = .pointer (some ⟨wq, 2, none⟩) := by rw [← hA, mkAct_in2 _ _ _ _ rfl rfl]; exact e135
                  have c := (Blk.c (hJ.elim (fun X h => h.2.1.blk HS10.out.blk HS10.out.wO)) 2 : w'.cell? ⟨wq, 2, none⟩ = some (.int .i64 first))
                  refine step_val (v := .int .i64 first) (w' := w') ?_ ⟨rfl, Ext.refl _ _⟩
                  simp [execOp, h135, c, Result.andThen, go_sem]
                case f8_35 =>
                  intro f v g w' hJ hfi hb hd
                  refine arm_u rfl ?_
                  refine op_run rfl ?_
                  generalize hA : mkAct _ _ g = A
                  have h17 : A.tmps[17]?.getD undef = .int .i64 (k : Int) := by rw [← hA]; exact mkAct_out2 _ _ _ _ _ rfl rfl
                  refine step_val (v := .int .i64 (k : Int)) (w' := w') ?_ ⟨rfl, Ext.refl _ _⟩
                  simp [execOp, h17, Result.andThen, go_sem]
                case f9_35 =>
                  intro f v g w' hJ hfi hb hd
                  refine arm_u rfl ?_
                  refine op_run rfl ?_
                  have e136 : g 136 = .int .i64 first := value_u (hd ⟨7, .data⟩ (by simp) rfl) rfl rfl
                  have e137 : g 137 = .int .i64 (k : Int) := value_u (hd ⟨8, .data⟩ (by simp) rfl) rfl rfl
                  generalize hA : mkAct _ _ g = A
                  have h136 : A.tmps[136]?.getD undef = .int .i64 first := by rw [← hA, mkAct_in2 _ _ _ _ rfl rfl]; exact e136
                  have h137 : A.tmps[137]?.getD undef = .int .i64 (k : Int) := by rw [← hA, mkAct_in2 _ _ _ _ rfl rfl]; exact e137
                  refine step_val (v := .int .i64 (first + (k : Int))) (w' := w') ?_ ⟨rfl, Ext.refl _ _⟩
                  simp [execOp, h136, h137, Result.andThen, go_sem]
                  exact IntWalk.i64_in _ ⟨by omega, by omega⟩
                case f10_35 =>
                  intro f v g w' hJ hfi hb hd
                  refine arms_u rfl ?_
                  refine op_run rfl ?_
                  have e132 : g 132 = .pointer (some ⟨q', 0, none⟩) := value_u (hd ⟨3, .data⟩ (by simp) rfl) rfl rfl
                  have e138 : g 138 = .int .i64 (first + (k : Int)) := value_u (hd ⟨9, .data⟩ (by simp) rfl) rfl rfl
                  generalize hA : mkAct _ _ g = A
                  have h132 : A.tmps[132]?.getD undef = .pointer (some ⟨q', 0, none⟩) := by rw [← hA, mkAct_in2 _ _ _ _ rfl rfl]; exact e132
                  have h138 : A.tmps[138]?.getD undef = .int .i64 (first + (k : Int)) := by rw [← hA, mkAct_in2 _ _ _ _ rfl rfl]; exact e138
                  obtain ⟨X, j1, j2, j3, j4⟩ := hJ
                  refine mid_u (fun K hK => ?_)
                  go_simp
                  refine (cR w' (X ++ Oh) j1).mono ?_
                  rintro e w2 ⟨rfl, hl2, hk2⟩
                  refine hK (.tuple #[.agg #[.int .i64 yi, .int .i64 yt, .string ⟨yd.toArray⟩], .int .i64 st]) w2 ⟨X, hl2, j2.trans (hk2.sub (fun z hz => List.mem_append_right _ hz)), fun _ => setU_same _ _ _, fun h => ?_⟩
                  obtain ⟨G, eG, hGX, hGO, hGw, jz, jn⟩ := j4 h
                  exact ⟨G, eG, hGX, hGO, hGw, fun h5 => hk2.blk (jz h5) (List.mem_append_left _ hGX), fun h5 => hk2.blk (jn h5) (List.mem_append_left _ hGX)⟩
                case f11_35 =>
                  intro f v g w' hJ hfi hb hd
                  refine arm_u rfl ?_
                  refine op_run rfl ?_
                  obtain ⟨hf139, e139⟩ := special_u (hd ⟨10, .data⟩ (by simp) rfl) rfl rfl
                  replace e139 : g 139 = v 10 := e139
                  have e139x : v 10 = .tuple #[.agg #[.int .i64 yi, .int .i64 yt, .string ⟨yd.toArray⟩], .int .i64 st] := hJ.elim (fun X h => h.2.2.1 hf139)
                  rw [e139x] at e139
                  generalize hA : mkAct _ _ g = A
                  have h139 : A.tmps[139]?.getD undef = .tuple #[.agg #[.int .i64 yi, .int .i64 yt, .string ⟨yd.toArray⟩], .int .i64 st] := by rw [← hA, mkAct_in2 _ _ _ _ rfl rfl]; exact e139
                  refine step_val (v := .tuple #[.agg #[.int .i64 yi, .int .i64 yt, .string ⟨yd.toArray⟩], .int .i64 st]) (w' := w') ?_ ⟨rfl, Ext.refl _ _⟩
                  simp [execOp, h139, Result.andThen, go_sem]
                case f12_35 =>
                  intro f v g w' hJ hfi hb hd
                  refine arm_u rfl ?_
                  refine op_run rfl ?_
                  have e128 : g 128 = .tuple #[.agg #[.int .i64 yi, .int .i64 yt, .string ⟨yd.toArray⟩], .int .i64 st] := value_u (hd ⟨11, .data⟩ (by simp) rfl) rfl rfl
                  generalize hA : mkAct _ _ g = A
                  have h128 : A.tmps[128]?.getD undef = .tuple #[.agg #[.int .i64 yi, .int .i64 yt, .string ⟨yd.toArray⟩], .int .i64 st] := by rw [← hA, mkAct_in2 _ _ _ _ rfl rfl]; exact e128
                  refine step_val (v := .agg #[.int .i64 yi, .int .i64 yt, .string ⟨yd.toArray⟩]) (w' := w') ?_ ⟨rfl, Ext.refl _ _⟩
                  simp [execOp, h128, Result.andThen, go_sem]
                case f13_35 =>
                  intro f v g w' hJ hfi hb hd
                  refine arm_u rfl ?_
                  refine op_run rfl ?_
                  have e128 : g 128 = .tuple #[.agg #[.int .i64 yi, .int .i64 yt, .string ⟨yd.toArray⟩], .int .i64 st] := value_u (hd ⟨11, .data⟩ (by simp) rfl) rfl rfl
                  generalize hA : mkAct _ _ g = A
                  have h128 : A.tmps[128]?.getD undef = .tuple #[.agg #[.int .i64 yi, .int .i64 yt, .string ⟨yd.toArray⟩], .int .i64 st] := by rw [← hA, mkAct_in2 _ _ _ _ rfl rfl]; exact e128
                  refine step_val (v := .int .i64 st) (w' := w') ?_ ⟨rfl, Ext.refl _ _⟩
                  simp [execOp, h128, Result.andThen, go_sem]
                case f14_35 =>
                  intro f v g w' hJ hfi hb hd
                  refine arms_u rfl ?_
                  refine op_run rfl ?_
                  obtain ⟨X, j1, j2, j3, j4⟩ := hJ
                  generalize hA : mkAct _ _ g = A
                  have hxa : Ext [] w' (w'.alloc (.cells #[.int .i64 0, .int .i64 0, .string ⟨#[]⟩] 37)) := (Ext.refl _ _).alloc _
                  have hlt := j1.lt
                  have hsz := j1.ext.size
                  refine step_val (v := .pointer (some ⟨w'.heap.size, 0, none⟩)) (w' := w'.alloc (.cells #[.int .i64 0, .int .i64 0, .string ⟨#[]⟩] 37)) ?_ ⟨_, rfl, w'.heap.size :: X, j1.add hxa w'.heap.size (Nat.le_refl _) (by simp), j2.trans (Kept.of hxa), j3, fun _ => ⟨w'.heap.size, setU_same _ _ _, List.mem_cons_self, fun hm => Nat.lt_irrefl _ (hlt _ (List.mem_append_right _ hm)), hsz, fun _ => Blk.new w' 37 #[.int .i64 0, .int .i64 0, .string ⟨#[]⟩], fun h8 => (by have h8' : f 15 = true := h8; rw [not_yet hb (by kernel_rfl)] at h8'; cases h8')⟩⟩
                  simp [execOp, Result.andThen, go_sem]
                case f15_35 =>
                  intro f v g w' hJ hfi hb hd
                  refine arms_u rfl ?_
                  refine op_run rfl ?_
                  obtain ⟨hfp, ep⟩ := special_u (hd ⟨14, .data⟩ (by simp) rfl) rfl rfl
                  replace ep : g 19 = v 14 := ep
                  have ev : g 140 = .agg #[.int .i64 yi, .int .i64 yt, .string ⟨yd.toArray⟩] := value_u (hd ⟨12, .data⟩ (by simp) rfl) rfl rfl
                  obtain ⟨X, j1, j2, j3, j4⟩ := hJ
                  obtain ⟨G, eG, hGX, hGO, hGw, jz, jn⟩ := j4 hfp
                  rw [eG] at ep
                  have hB0 := jz hfi
                  generalize hA : mkAct _ _ g = A
                  have h5 : A.tmps[19]?.getD undef = .pointer (some ⟨G, 0, none⟩) := by rw [← hA, mkAct_in2 _ _ _ _ rfl rfl]; exact ep
                  have h6 : A.tmps[140]?.getD undef = .agg #[.int .i64 yi, .int .i64 yt, .string ⟨yd.toArray⟩] := by rw [← hA, mkAct_in2 _ _ _ _ rfl rfl]; exact ev
                  have c0 : w'.cell? ⟨G, 0, none⟩ = some (.int .i64 0) := Blk.c hB0 0
                  have c1 : w'.cell? ⟨G, 1, none⟩ = some (.int .i64 0) := Blk.c hB0 1
                  have c2 : w'.cell? ⟨G, 2, none⟩ = some (.string ⟨#[]⟩) := Blk.c hB0 2
                  have cf := fun j => Blk.f hB0 j
                  have cl := Blk.lt hB0
                  have HX9 : Ext [G] w' (((w'.setCell ⟨G, 0, none⟩ (.int .i64 yi)).setCell ⟨G, 1, none⟩ (.int .i64 yt)).setCell ⟨G, 2, none⟩ (.string ⟨yd.toArray⟩)) := ((((Ext.refl [G] w').setCell (p := ⟨G, 0, none⟩) (.inl (List.mem_singleton.2 rfl)) (.int .i64 yi)).setCell (p := ⟨G, 1, none⟩) (.inl (List.mem_singleton.2 rfl)) (.int .i64 yt)).setCell (p := ⟨G, 2, none⟩) (.inl (List.mem_singleton.2 rfl)) (.string ⟨yd.toArray⟩))
                  have HB9 := (Blk.set (Blk.set (Blk.set hB0 0 (.int .i64 yi)) 1 (.int .i64 yt)) 2 (.string ⟨yd.toArray⟩))
                  refine step_skip (w' := (((w'.setCell ⟨G, 0, none⟩ (.int .i64 yi)).setCell ⟨G, 1, none⟩ (.int .i64 yt)).setCell ⟨G, 2, none⟩ (.string ⟨yd.toArray⟩))) ?_ ⟨undef, rfl, X, j1.other HX9 (List.mem_append_left _ hGX) hGw, j2.trans (fun z hz o ho => HX9.heap (fun hm => by simp at hm; exact hGO (hm ▸ hz)) ho), j3, fun _ => ⟨G, eG, hGX, hGO, hGw, fun h => (by cases h), fun _ => HB9⟩⟩
                  simp [execOp, h5, h6, c0, c1, c2, cf, cl, Result.andThen, go_sem]
                case f16_35 =>
                  intro f v g w' hJ hfi hb hd
                  refine arm_u rfl ?_
                  refine op_run rfl ?_
                  have e141 : g 141 = .int .i64 st := value_u (hd ⟨13, .data⟩ (by simp) rfl) rfl rfl
                  generalize hA : mkAct _ _ g = A
                  have h141 : A.tmps[141]?.getD undef = .int .i64 st := by rw [← hA, mkAct_in2 _ _ _ _ rfl rfl]; exact e141
                  refine step_val (v := .int .i64 st) (w' := w') ?_ ⟨rfl, Ext.refl _ _⟩
                  simp [execOp, h141, Result.andThen, go_sem]
              intro f v g wn hJ hk
              obtain ⟨hf19, e19⟩ := special_u (hk 14 (by decide)) rfl rfl
              replace e19 : g 19 = v 14 := e19
              have e20 : g 20 = .int .i64 st := value_u (hk 16 (by decide)) rfl rfl
              have hfs15 : f 15 = true := ((hk 15 (by decide)).2 rfl).1
              obtain ⟨X, j1, j2, -, j4⟩ := hJ
              obtain ⟨G, eG, hGX, hGO, hGw, -, jn⟩ := j4 hf19
              have HG11 := Hid.of (jn hfs15)
              rw [eG] at e19
              have HS11 := Hid.of (HS10.out.turn (j1.sub (fun z hz => List.mem_append_right _ hz)) j2)
              have HB11 := Hid.of (j2.blk HB10.out HOh.out.1)
              clear hk j1 j2 j4 jn eG hGX hGO hGw hf19 hfs15 cR HS10 HB10
              unfold mkAct; simp only [List.zipIdx_cons, List.zipIdx_nil, List.map_cons, List.map_nil, Nat.zero_add, Nat.reduceAdd, List.contains_cons, List.contains_nil, Nat.reduceBEq, Bool.or_false, Bool.or_true, ↓reduceIte, Bool.false_eq_true]
              rw [e19, e20]
              clear e19 e20
              obtain ⟨w11, hw11⟩ : ∃ w, w = wn := ⟨_, rfl⟩
              rw [← hw11] at HS11 HB11 HG11 ⊢
              clear hw11
              have hlk := HS11.out.bad.lookup (P := Try.prog) Try.underlying45 Try.underlying3 zero_intH (first + (k : Int))
              have hnx := HLb.out.next (by omega)
              have HSm := Hid.of (HS11.out.sub (O' := O0) HOh.out.2 (by rw [HO0.out]; simp) (by rw [HO0.out]; simp) (fun z hz => by rw [HO0.out]; simp [hz]))
              have c2 := HS11.out.c2
              have x0 : w11.cell? ⟨Xb, 0, none⟩ = some (.int .i64 (first + (k : Int))) := Blk.c HB11.out 0
              have x1 : w11.cell? ⟨Xb, 1, none⟩ = some (.int .i64 xt) := Blk.c HB11.out 1
              have x2 : w11.cell? ⟨Xb, 2, none⟩ = some (.string ⟨xd.toArray⟩) := Blk.c HB11.out 2
              obtain ⟨ek, hek⟩ : ∃ e, e = eb (first + (k : Int)) := ⟨_, rfl⟩
              obtain ⟨mk, hmk⟩ : ∃ e, e = mb (first + (k : Int)) := ⟨_, rfl⟩
              have han := HAn.out
              rw [← hek] at han hnx hlk
              rw [← hmk] at hlk
              clear hek hmk HAn
              have hrb : 0 ≤ r ∧ r ≤ 2000 := by
                rcases HLb.out with ⟨h1, -⟩ | ⟨h1, h2, -⟩ <;> omega
              cases ek with
              | false =>
                have e5 : (⟨⟨yi, yt, yd⟩, st⟩ : Ent × Int) = (⟨first + (k : Int), xt, xd⟩, 1) := han
                cases e5
                have hlk2 : (Instr.lookup 45 (.map (some mB)) (.int .i64 (first + (k : Int))) false).run Try.prog w11 = .ok (.int .i64 0) w11 := hlk
                have g0 : w11.cell? ⟨G, 0, none⟩ = some (.int .i64 (first + (k : Int))) := Blk.c HG11.out 0
                have g1 : w11.cell? ⟨G, 1, none⟩ = some (.int .i64 xt) := Blk.c HG11.out 1
                have g2 : w11.cell? ⟨G, 2, none⟩ = some (.string ⟨xd.toArray⟩) := Blk.c HG11.out 2
                rw [if_neg (by simp)] at hnx
                have HNx := Hid.of hnx
                clear han hlk hnx HLb
                go_wp2
                go_roundw
                case rel => exact ⟨k + 1, r, rfl, by go_num, by omega, HNx, HSm⟩
                case measure => simp [intOf]; omega
              | true =>
                have e5 : (⟨⟨yi, yt, yd⟩, st⟩ : Ent × Int) = (⟨first + (k : Int), xt, []⟩, 2) := han
                cases e5
                obtain ⟨bk, hbk⟩ : ∃ b, b = badv true mk := ⟨_, rfl⟩
                have hbk2 : 1 ≤ bk ∧ bk ≤ 2 := by rw [hbk]; cases mk <;> decide
                rw [← hbk] at hlk
                have bk0 : (bk == 0) = false := beq_false_of_ne (by omega)
                have bk1 : decide (0 < bk) = true := decide_eq_true (by omega)
                have g0 : w11.cell? ⟨G, 0, none⟩ = some (.int .i64 (first + (k : Int))) := Blk.c HG11.out 0
                have g1 : w11.cell? ⟨G, 1, none⟩ = some (.int .i64 xt) := Blk.c HG11.out 1
                have g2 : w11.cell? ⟨G, 2, none⟩ = some (.string ⟨#[]⟩) := Blk.c HG11.out 2
                clear hbk
                by_cases hr0 : r = 0
                · rw [if_pos ⟨rfl, hr0⟩] at hnx
                  have HNx := Hid.of hnx
                  subst hr0
                  clear han hnx HLb
                  go_wp2
                  go_roundw
                  case rel => exact ⟨k + 1, _, rfl, by go_num, by omega, HNx, HSm⟩
                  case measure => simp [intOf]; omega
                · rw [if_neg (fun h => hr0 h.2)] at hnx
                  have HNx := Hid.of hnx
                  have hr1 : (r == 0) = false := beq_false_of_ne hr0
                  clear han hnx HLb hr0
                  go_wp2
                  go_roundw
                  case rel => exact ⟨k + 1, r, rfl, by go_num, by omega, HNx, HSm⟩
                  case measure => simp [intOf]; omega
            · as_aux_lemma =>
              have hkM2 : k = M := by omega
              obtain ⟨w11, hw11⟩ : ∃ w, w = wr := ⟨_, rfl⟩
              rw [← hw11] at HS ⊢
              have hlb := HLb.out
              rw [hkM2] at hlb
              have hhi : HurtIs L1.hurt r := HT.out.least (by rw [HL1.out.2.2, ← HM.out]; exact hlb)
              have cHu := HS.out.log.hurt_c hhi
              have c1 := HS.out.c1
              have hrb : 0 ≤ r ∧ r ≤ 2000 := by
                rcases hlb with ⟨h1, -⟩ | ⟨h1, h2, -⟩ <;> omega
              have HLm := Hid.of hlb
              have hkd : decide ((k : Int) < (M : Int)) = false := decide_eq_false (by omega)
              clear hw11 hhi hlb HLb hkM2 hk
              go_wp2_with fail
              refine cHu.mono ?_
              rintro e w12 ⟨rfl, hx12⟩
              have HS12 := Hid.of (HS.out.keep hx12)
              clear cHu c1 hx12 HS hkd hkM
              go_upto_region 43 with fail
              obtain ⟨mo, hdx, hls⟩ := HS12.out.log.olds
              obtain ⟨On, hOn⟩ : ∃ O, O = q' :: mo :: O0 := ⟨_, rfl⟩
              rw [← hOn] at hdx hls
              have HOn : Hid (∀ z ∈ O0, z ∈ On) := Hid.of (by rw [hOn]; exact fun z hz => List.mem_cons_of_mem _ (List.mem_cons_of_mem _ hz))
              have HLs := Hid.of hls
              have cO : ∀ w', Ext [] w12 w' → Calls Try.prog 20 #[.pointer (some ⟨b', 0, none⟩), .int .i64 3, .int .i64 8, .int .i64 first] w' fun e w3 => ∃ q2, e = .returned (.tuple #[.pointer (some ⟨q2, 0, none⟩), .int .i64 0]) ∧ HoMid w0 w12 w3 b' q2 first all eb mb On := by
                intro w' hx
                refine (open_t (hdx.keep hx) HT.out.laid HOp1.out 3 8 first HL1.out.1 HL1.out.2.1 HL1.out.2.2 (by omega) (by omega) (by omega) (by omega) (by omega)).mono ?_
                rintro e w3 ⟨q2, L2, V2, he, hl, hk, hS, ho, g1, g2, g3⟩
                exact ⟨q2, he, (Kept.of hx).trans hk, L2, V2, hl, hS, ho, g1, g2, g3⟩
              have c0 := fun w' (hx : Ext [] w12 w') => (HS12.out.keep hx).c0
              have c2 := fun w' (hx : Ext [] w12 w') => (HS12.out.keep hx).c2
              have HLa1 : Hid (L1.last = first + (M : Int) - 1) := Hid.of (by rw [HT.out.last, HL1.out.2.2, ← HM.out])
              clear hOn hls hdx
              refine wp_region_stepsm [212, 213, 214, 215, 216, 217, 218, 219, 220, 211, 221, 222, 21, 22] 8 (ho43Φ wq b' first) (ho43ΦT wq b' first) (fun v w => ∃ q2, v = .tuple #[.pointer (some ⟨q2, 0, none⟩), .int .i64 0] ∧ HoMid w0 w12 w b' q2 first all eb mb On) (fun v n y => match n with | 9 => y = v | 10 => y = tupAt v 0 | 11 => y = tupAt v 1 | 12 => y = tupAt v 0 | 13 => y = tupAt v 1 | _ => True) (by kernel_rfl) (by kernel_rfl) (fun n y w w' h hx => h) (fun n y w' hn h => by unfold ho43Φ at h; unfold ho43ΦT; split at h <;> first | exact h | trivial) ?hst_43 ?hend_43
              case hst_43 =>
                refine ⟨?f0_43, ?f1_43, ?f2_43, ?f3_43, ?f4_43, ?f5_43, ?f6_43, ?f7_43, ?f8_43, ?f9_43, ?f10_43, ?f11_43, ?f12_43, ?f13_43, trivial⟩
                case f0_43 =>
                  refine (if_pos (by decide)).mpr ?_
                  intro g w' hx hd hb
                  refine op_run rfl ?_
                  generalize hA : mkAct _ _ g = A
                  have h5 : A.tmps[5]?.getD undef = .pointer (some ⟨wq, 0, none⟩) := by rw [← hA]; exact mkAct_out2 _ _ _ _ _ rfl rfl
                  refine step_val (v := .pointer (some ⟨wq, 0, none⟩)) (w' := w') ?_ ⟨_, rfl, Ext.refl _ _, rfl⟩
                  simp [execOp, h5, Result.andThen, go_sem]
                case f1_43 =>
                  refine (if_pos (by decide)).mpr ?_
                  intro g w' hx hd hb
                  refine op_run rfl ?_
                  have e212 : g 212 = .pointer (some ⟨wq, 0, none⟩) := hd ⟨0, .data⟩ (by simp) rfl
                  generalize hA : mkAct _ _ g = A
                  have h212 : A.tmps[212]?.getD undef = .pointer (some ⟨wq, 0, none⟩) := by rw [← hA, mkAct_in2 _ _ _ _ rfl rfl]; exact e212
                  refine step_val (v := .pointer (some ⟨wq, 0, none⟩)) (w' := w') ?_ ⟨_, rfl, Ext.refl _ _, rfl⟩
                  simp [execOp, h212, Result.andThen, go_sem]
                case f2_43 =>
                  refine (if_pos (by decide)).mpr ?_
                  intro g w' hx hd hb
                  refine op_run rfl ?_
                  have e213 : g 213 = .pointer (some ⟨wq, 0, none⟩) := hd ⟨1, .data⟩ (by simp) rfl
                  generalize hA : mkAct _ _ g = A
                  have h213 : A.tmps[213]?.getD undef = .pointer (some ⟨wq, 0, none⟩) := by rw [← hA, mkAct_in2 _ _ _ _ rfl rfl]; exact e213
                  refine step_val (v := .pointer (some ⟨wq, 0, none⟩)) (w' := w') ?_ ⟨_, rfl, Ext.refl _ _, rfl⟩
                  simp [execOp, h213, Result.andThen, go_sem]
                case f3_43 =>
                  refine (if_pos (by decide)).mpr ?_
                  intro g w' hx hd hb
                  refine op_run rfl ?_
                  have e214 : g 214 = .pointer (some ⟨wq, 0, none⟩) := hd ⟨2, .data⟩ (by simp) rfl
                  generalize hA : mkAct _ _ g = A
                  have h214 : A.tmps[214]?.getD undef = .pointer (some ⟨wq, 0, none⟩) := by rw [← hA, mkAct_in2 _ _ _ _ rfl rfl]; exact e214
                  have c := c0 w' hx
                  refine step_val (v := .pointer (some ⟨b', 0, none⟩)) (w' := w') ?_ ⟨_, rfl, Ext.refl _ _, rfl⟩
                  simp [execOp, h214, c, Result.andThen, go_sem]
                case f4_43 =>
                  refine (if_pos (by decide)).mpr ?_
                  intro g w' hx hd hb
                  refine op_run rfl ?_
                  generalize hA : mkAct _ _ g = A
                  have h5 : A.tmps[5]?.getD undef = .pointer (some ⟨wq, 0, none⟩) := by rw [← hA]; exact mkAct_out2 _ _ _ _ _ rfl rfl
                  refine step_val (v := .pointer (some ⟨wq, 0, none⟩)) (w' := w') ?_ ⟨_, rfl, Ext.refl _ _, rfl⟩
                  simp [execOp, h5, Result.andThen, go_sem]
                case f5_43 =>
                  refine (if_pos (by decide)).mpr ?_
                  intro g w' hx hd hb
                  refine op_run rfl ?_
                  have e216 : g 216 = .pointer (some ⟨wq, 0, none⟩) := hd ⟨4, .data⟩ (by simp) rfl
                  generalize hA : mkAct _ _ g = A
                  have h216 : A.tmps[216]?.getD undef = .pointer (some ⟨wq, 0, none⟩) := by rw [← hA, mkAct_in2 _ _ _ _ rfl rfl]; exact e216
                  refine step_val (v := .pointer (some ⟨wq, 0, none⟩)) (w' := w') ?_ ⟨_, rfl, Ext.refl _ _, rfl⟩
                  simp [execOp, h216, Result.andThen, go_sem]
                case f6_43 =>
                  refine (if_pos (by decide)).mpr ?_
                  intro g w' hx hd hb
                  refine op_run rfl ?_
                  have e217 : g 217 = .pointer (some ⟨wq, 0, none⟩) := hd ⟨5, .data⟩ (by simp) rfl
                  generalize hA : mkAct _ _ g = A
                  have h217 : A.tmps[217]?.getD undef = .pointer (some ⟨wq, 0, none⟩) := by rw [← hA, mkAct_in2 _ _ _ _ rfl rfl]; exact e217
                  refine step_val (v := .pointer (some ⟨wq, 2, none⟩)) (w' := w') ?_ ⟨_, rfl, Ext.refl _ _, rfl⟩
                  simp [execOp, h217, Result.andThen, go_sem]
                case f7_43 =>
                  refine (if_pos (by decide)).mpr ?_
                  intro g w' hx hd hb
                  refine op_run rfl ?_
                  have e218 : g 218 = .pointer (some ⟨wq, 2, none⟩) := hd ⟨6, .data⟩ (by simp) rfl
                  generalize hA : mkAct _ _ g = A
                  have h218 : A.tmps[218]?.getD undef = .pointer (some ⟨wq, 2, none⟩) := by rw [← hA, mkAct_in2 _ _ _ _ rfl rfl]; exact e218
                  have c := c2 w' hx
                  refine step_val (v := .int .i64 first) (w' := w') ?_ ⟨_, rfl, Ext.refl _ _, rfl⟩
                  simp [execOp, h218, c, Result.andThen, go_sem]
                case f8_43 =>
                  refine (if_neg (by decide)).mpr ((if_pos rfl).mpr ?_)
                  intro g w' hx hd hb
                  refine op_run rfl ?_
                  have e215 : g 215 = .pointer (some ⟨b', 0, none⟩) := hd 3 (by decide)
                  have e219 : g 219 = .int .i64 first := hd 7 (by decide)
                  generalize hA : mkAct _ _ g = A
                  have h215 : A.tmps[215]?.getD undef = .pointer (some ⟨b', 0, none⟩) := by rw [← hA, mkAct_in2 _ _ _ _ rfl rfl]; exact e215
                  have h219 : A.tmps[219]?.getD undef = .int .i64 first := by rw [← hA, mkAct_in2 _ _ _ _ rfl rfl]; exact e219
                  refine mid_k (fun K hK => ?_)
                  go_simp
                  refine (cO w' hx).mono ?_
                  rintro e w2 ⟨q2, rfl, hO2⟩
                  exact hK (.tuple #[.pointer (some ⟨q2, 0, none⟩), .int .i64 0]) w2 ⟨q2, rfl, hO2⟩
                case f9_43 =>
                  refine (if_neg (by decide)).mpr ((if_neg (by decide)).mpr ?_)
                  intro g v w' hM hT hv hd
                  refine op_run rfl ?_
                  obtain ⟨q2, rfl, -⟩ := hM
                  have e220 := hv (Option.some_ne_none _)
                  replace e220 : g 220 = _ := e220
                  generalize hA : mkAct _ _ g = A
                  have h220 : A.tmps[220]?.getD undef = g 220 := by rw [← hA]; exact mkAct_in2 _ _ _ _ rfl rfl
                  rw [e220] at h220
                  refine step_val (w' := w') ?_ ⟨_, rfl, rfl, rfl⟩
                  simp [execOp, h220, tupAt, Result.andThen, go_sem]
                case f10_43 =>
                  refine (if_neg (by decide)).mpr ((if_neg (by decide)).mpr ?_)
                  intro g v w' hM hT hv hd
                  refine op_run rfl ?_
                  obtain ⟨q2, rfl, -⟩ := hM
                  have e211 := hd ⟨9, .data⟩ (by simp) rfl (by decide)
                  replace e211 : g 211 = _ := e211
                  generalize hA : mkAct _ _ g = A
                  have h211 : A.tmps[211]?.getD undef = g 211 := by rw [← hA]; exact mkAct_in2 _ _ _ _ rfl rfl
                  rw [e211] at h211
                  refine step_val (w' := w') ?_ ⟨_, rfl, rfl, rfl⟩
                  simp [execOp, h211, tupAt, Result.andThen, go_sem]
                case f11_43 =>
                  refine (if_neg (by decide)).mpr ((if_neg (by decide)).mpr ?_)
                  intro g v w' hM hT hv hd
                  refine op_run rfl ?_
                  obtain ⟨q2, rfl, -⟩ := hM
                  have e211 := hd ⟨9, .data⟩ (by simp) rfl (by decide)
                  replace e211 : g 211 = _ := e211
                  generalize hA : mkAct _ _ g = A
                  have h211 : A.tmps[211]?.getD undef = g 211 := by rw [← hA]; exact mkAct_in2 _ _ _ _ rfl rfl
                  rw [e211] at h211
                  refine step_val (w' := w') ?_ ⟨_, rfl, rfl, rfl⟩
                  simp [execOp, h211, tupAt, Result.andThen, go_sem]
                case f12_43 =>
                  refine (if_neg (by decide)).mpr ((if_neg (by decide)).mpr ?_)
                  intro g v w' hM hT hv hd
                  refine op_run rfl ?_
                  obtain ⟨q2, rfl, -⟩ := hM
                  have e221 := hd ⟨10, .data⟩ (by simp) rfl (by decide)
                  replace e221 : g 221 = _ := e221
                  generalize hA : mkAct _ _ g = A
                  have h221 : A.tmps[221]?.getD undef = g 221 := by rw [← hA]; exact mkAct_in2 _ _ _ _ rfl rfl
                  rw [e221] at h221
                  refine step_val (w' := w') ?_ ⟨_, rfl, rfl, rfl⟩
                  simp [execOp, h221, tupAt, Result.andThen, go_sem]
                case f13_43 =>
                  refine (if_neg (by decide)).mpr ((if_neg (by decide)).mpr ?_)
                  intro g v w' hM hT hv hd
                  refine op_run rfl ?_
                  obtain ⟨q2, rfl, -⟩ := hM
                  have e222 := hd ⟨11, .data⟩ (by simp) rfl (by decide)
                  replace e222 : g 222 = _ := e222
                  generalize hA : mkAct _ _ g = A
                  have h222 : A.tmps[222]?.getD undef = g 222 := by rw [← hA]; exact mkAct_in2 _ _ _ _ rfl rfl
                  rw [e222] at h222
                  refine step_val (w' := w') ?_ ⟨_, rfl, rfl, rfl⟩
                  simp [execOp, h222, tupAt, Result.andThen, go_sem]
              intro g v wn hM hT hv hd
              obtain ⟨q2, rfl, hA⟩ := hM
              have e21 : g 21 = .pointer (some ⟨q2, 0, none⟩) := hd 12 (by decide) (by decide)
              have e22 : g 22 = .int .i64 0 := hd 13 (by decide) (by decide)
              clear hd hv hT cO c0 c2
              unfold mkAct; simp only [List.zipIdx_cons, List.zipIdx_nil, List.map_cons, List.map_nil, Nat.zero_add, Nat.reduceAdd, List.contains_cons, List.contains_nil, Nat.reduceBEq, Bool.or_false, Bool.or_true, ↓reduceIte, Bool.false_eq_true]
              rw [e21, e22]
              clear e21 e22
              obtain ⟨w13, hw13⟩ : ∃ w, w = wn := ⟨_, rfl⟩
              rw [← hw13] at hA ⊢
              clear hw13
              obtain ⟨hkp, L2, V2, hl2, ht2, ho2, hL2⟩ := hA
              have HS13 := Hid.of (HS12.out.turn (hl2.sub HOn.out) (hkp.sub HOn.out))
              have HT2 := Hid.of ht2
              have HOp2 := Hid.of ho2
              have HL2 := Hid.of hL2
              have cL1 : ∀ w', Ext [] w13 w' → Calls Try.prog 21 #[.pointer (some ⟨q', 0, none⟩)] w' fun e w'' => e = .returned (.int .i64 (first + (M : Int) - 1)) ∧ Ext [] w' w'' := by
                intro w' hx
                have := HLs.out w13 hkp w' hx
                rwa [HLa1.out] at this
              have cL2 : ∀ w', Ext [] w13 w' → Calls Try.prog 21 #[.pointer (some ⟨q2, 0, none⟩)] w' fun e w'' => e = .returned (.int .i64 (first + (M : Int) - 1)) ∧ Ext [] w' w'' := by
                intro w' hx
                have := (HS13.out.log.keep hx).last_c
                rwa [HT2.out.last, HL2.out.2.2, ← HM.out] at this
              have cHu : ∀ w', Ext [] w13 w' → Calls Try.prog 19 #[.pointer (some ⟨q2, 0, none⟩)] w' fun e w'' => e = .returned (.int .i64 r) ∧ Ext [] w' w'' := by
                intro w' hx
                exact (HS13.out.log.keep hx).hurt_c (HT2.out.least (by rw [HL2.out.2.2, ← HM.out]; exact HLm.out))
              clear hkp hl2 ht2 ho2 hL2 HS12 HT HOp1 HLs HOn HLa1 HL1
              go_upto_region 44 with fail
              refine wp_region_u [223, 224, 225, 226, 227, 228, 229, 230, 231, 232, 233, 234, 235, 236, 237, 238, 239, 240] [] (fun n => match n with | 0 => .int .i64 0 | 1 => .bool false | 2 => .bool false | 3 => .pointer (some ⟨q2, 0, none⟩) | 4 => .int .i64 (first + (M : Int) - 1) | 5 => .pointer (some ⟨wq, 0, none⟩) | 6 => .pointer (some ⟨wq, 0, none⟩) | 7 => .pointer (some ⟨wq, 1, none⟩) | 8 => .pointer (some ⟨q', 0, none⟩) | 9 => .int .i64 (first + (M : Int) - 1) | 10 => .bool false | 11 => .bool false | 12 => .bool false | 13 => .pointer (some ⟨q2, 0, none⟩) | 14 => .int .i64 r | 15 => .int .i64 r | 16 => .bool false | 17 => .bool false | _ => undef) (fun f v wx => Ext [] w13 wx) (by kernel_rfl) (by kernel_rfl) ?hst0_44 ?h00_44 ?hst_44 ?hend_44
              case hst0_44 =>
                exact fun f v w w' h hx => h.then0 hx
              case h00_44 =>
                exact Ext.refl _ _
              case hst_44 =>
                refine ⟨?f0_44, ?f1_44, ?f2_44, ?f3_44, ?f4_44, ?f5_44, ?f6_44, ?f7_44, ?f8_44, ?f9_44, ?f10_44, ?f11_44, ?f12_44, ?f13_44, ?f14_44, ?f15_44, ?f16_44, ?f17_44, trivial⟩
                case f0_44 =>
                  intro f v g w' hJ hfi hb hd
                  refine arm_u rfl ?_
                  refine op_run rfl ?_
                  generalize hA : mkAct _ _ g = A
                  have h22 : A.tmps[22]?.getD undef = .int .i64 0 := by rw [← hA]; exact mkAct_out2 _ _ _ _ _ rfl rfl
                  refine step_val (v := .int .i64 0) (w' := w') ?_ ⟨rfl, Ext.refl _ _⟩
                  simp [execOp, h22, Result.andThen, go_sem]
                case f1_44 =>
                  intro f v g w' hJ hfi hb hd
                  refine arm_u rfl ?_
                  refine op_run rfl ?_
                  have e223 : g 223 = .int .i64 0 := value_u (hd ⟨0, .data⟩ (by simp) rfl) rfl rfl
                  generalize hA : mkAct _ _ g = A
                  have h223 : A.tmps[223]?.getD undef = .int .i64 0 := by rw [← hA, mkAct_in2 _ _ _ _ rfl rfl]; exact e223
                  refine step_val (v := .bool false) (w' := w') ?_ ⟨rfl, Ext.refl _ _⟩
                  simp [execOp, h223, Result.andThen, go_sem]
                case f2_44 =>
                  intro f v g w' hJ hfi hb hd
                  refine arm_u rfl ?_
                  refine op_run rfl ?_
                  have e224 : g 224 = .bool false := value_u (hd ⟨1, .data⟩ (by simp) rfl) rfl rfl
                  generalize hA : mkAct _ _ g = A
                  have h224 : A.tmps[224]?.getD undef = .bool false := by rw [← hA, mkAct_in2 _ _ _ _ rfl rfl]; exact e224
                  refine step_val (v := .bool false) (w' := w') ?_ ⟨rfl, Ext.refl _ _⟩
                  simp [execOp, h224, Result.andThen, go_sem]
                case f3_44 =>
                  intro f v g w' hJ hfi hb hd
                  refine arm_u rfl ?_
                  have eg : g 225 = .bool false := value_u (hd ⟨2, .guard⟩ (by simp) rfl) rfl rfl
                  refine op_yes rfl rfl rfl rfl eg ?_
                  generalize hA : mkAct _ _ g = A
                  have h21 : A.tmps[21]?.getD undef = .pointer (some ⟨q2, 0, none⟩) := by rw [← hA]; exact mkAct_out2 _ _ _ _ _ rfl rfl
                  refine step_val (v := .pointer (some ⟨q2, 0, none⟩)) (w' := w') ?_ ⟨rfl, Ext.refl _ _⟩
                  simp [execOp, h21, Result.andThen, go_sem]
                case f4_44 =>
                  intro f v g w' hJ hfi hb hd
                  refine arm_u rfl ?_
                  have eg : g 225 = .bool false := value_u (hd ⟨2, .guard⟩ (by simp) rfl) rfl rfl
                  refine op_yes rfl rfl rfl rfl eg ?_
                  have e226 : g 226 = .pointer (some ⟨q2, 0, none⟩) := value_u (hd ⟨3, .data⟩ (by simp) rfl) rfl rfl
                  generalize hA : mkAct _ _ g = A
                  have h226 : A.tmps[226]?.getD undef = .pointer (some ⟨q2, 0, none⟩) := by rw [← hA, mkAct_in2 _ _ _ _ rfl rfl]; exact e226
                  refine float_u (fun K hK => ?_)
                  go_simp
                  refine (cL2 w' hJ).mono ?_
                  rintro e w2 ⟨rfl, hx2⟩
                  exact hK w2 hx2
                case f5_44 =>
                  intro f v g w' hJ hfi hb hd
                  refine arm_u rfl ?_
                  have eg : g 225 = .bool false := value_u (hd ⟨2, .guard⟩ (by simp) rfl) rfl rfl
                  refine op_yes rfl rfl rfl rfl eg ?_
                  generalize hA : mkAct _ _ g = A
                  have h5 : A.tmps[5]?.getD undef = .pointer (some ⟨wq, 0, none⟩) := by rw [← hA]; exact mkAct_out2 _ _ _ _ _ rfl rfl
                  refine step_val (v := .pointer (some ⟨wq, 0, none⟩)) (w' := w') ?_ ⟨rfl, Ext.refl _ _⟩
                  simp [execOp, h5, Result.andThen, go_sem]
                case f6_44 =>
                  intro f v g w' hJ hfi hb hd
                  refine arm_u rfl ?_
                  have eg : g 225 = .bool false := value_u (hd ⟨2, .guard⟩ (by simp) rfl) rfl rfl
                  refine op_yes rfl rfl rfl rfl eg ?_
                  have e228 : g 228 = .pointer (some ⟨wq, 0, none⟩) := value_u (hd ⟨5, .data⟩ (by simp) rfl) rfl rfl
                  generalize hA : mkAct _ _ g = A
                  have h228 : A.tmps[228]?.getD undef = .pointer (some ⟨wq, 0, none⟩) := by rw [← hA, mkAct_in2 _ _ _ _ rfl rfl]; exact e228
                  refine step_val (v := .pointer (some ⟨wq, 0, none⟩)) (w' := w') ?_ ⟨rfl, Ext.refl _ _⟩
                  simp [execOp, h228, Result.andThen, go_sem]
                case f7_44 =>
                  intro f v g w' hJ hfi hb hd
                  refine arm_u rfl ?_
                  have eg : g 225 = .bool false := value_u (hd ⟨2, .guard⟩ (by simp) rfl) rfl rfl
                  refine op_yes rfl rfl rfl rfl eg ?_
                  have e229 : g 229 = .pointer (some ⟨wq, 0, none⟩) := value_u (hd ⟨6, .data⟩ (by simp) rfl) rfl rfl
                  generalize hA : mkAct _ _ g = A
                  have h229 : A.tmps[229]?.getD undef = .pointer (some ⟨wq, 0, none⟩) := by rw [← hA, mkAct_in2 _ _ _ _ rfl rfl]; exact e229
                  refine step_val (v := .pointer (some ⟨wq, 1, none⟩)) (w' := w') ?_ ⟨rfl, Ext.refl _ _⟩
                  simp [execOp, h229, Result.andThen, go_sem]
                case f8_44 =>
                  intro f v g w' hJ hfi hb hd
                  refine arm_u rfl ?_
                  have eg : g 225 = .bool false := value_u (hd ⟨2, .guard⟩ (by simp) rfl) rfl rfl
                  refine op_yes rfl rfl rfl rfl eg ?_
                  have e230 : g 230 = .pointer (some ⟨wq, 1, none⟩) := value_u (hd ⟨7, .data⟩ (by simp) rfl) rfl rfl
                  generalize hA : mkAct _ _ g = A
                  have h230 : A.tmps[230]?.getD undef = .pointer (some ⟨wq, 1, none⟩) := by rw [← hA, mkAct_in2 _ _ _ _ rfl rfl]; exact e230
                  have c := (HS13.out.keep hJ).c1
                  refine step_val (v := .pointer (some ⟨q', 0, none⟩)) (w' := w') ?_ ⟨rfl, Ext.refl _ _⟩
                  simp [execOp, h230, c, Result.andThen, go_sem]
                case f9_44 =>
                  intro f v g w' hJ hfi hb hd
                  refine arm_u rfl ?_
                  have eg : g 225 = .bool false := value_u (hd ⟨2, .guard⟩ (by simp) rfl) rfl rfl
                  refine op_yes rfl rfl rfl rfl eg ?_
                  have e231 : g 231 = .pointer (some ⟨q', 0, none⟩) := value_u (hd ⟨8, .data⟩ (by simp) rfl) rfl rfl
                  generalize hA : mkAct _ _ g = A
                  have h231 : A.tmps[231]?.getD undef = .pointer (some ⟨q', 0, none⟩) := by rw [← hA, mkAct_in2 _ _ _ _ rfl rfl]; exact e231
                  refine float_u (fun K hK => ?_)
                  go_simp
                  refine (cL1 w' hJ).mono ?_
                  rintro e w2 ⟨rfl, hx2⟩
                  exact hK w2 hx2
                case f10_44 =>
                  intro f v g w' hJ hfi hb hd
                  refine arm_u rfl ?_
                  have eg : g 225 = .bool false := value_u (hd ⟨2, .guard⟩ (by simp) rfl) rfl rfl
                  refine op_yes rfl rfl rfl rfl eg ?_
                  have e227 : g 227 = .int .i64 (first + (M : Int) - 1) := value_u (hd ⟨4, .data⟩ (by simp) rfl) rfl rfl
                  have e232 : g 232 = .int .i64 (first + (M : Int) - 1) := value_u (hd ⟨9, .data⟩ (by simp) rfl) rfl rfl
                  generalize hA : mkAct _ _ g = A
                  have h227 : A.tmps[227]?.getD undef = .int .i64 (first + (M : Int) - 1) := by rw [← hA, mkAct_in2 _ _ _ _ rfl rfl]; exact e227
                  have h232 : A.tmps[232]?.getD undef = .int .i64 (first + (M : Int) - 1) := by rw [← hA, mkAct_in2 _ _ _ _ rfl rfl]; exact e232
                  refine step_val (v := .bool false) (w' := w') ?_ ⟨rfl, Ext.refl _ _⟩
                  simp [execOp, h227, h232, Result.andThen, go_sem]
                case f11_44 =>
                  intro f v g w' hJ hfi hb hd
                  refine arm_u rfl ?_
                  refine op_run rfl ?_
                  have e225 : g 225 = .bool false := value_u (hd ⟨2, .data⟩ (by simp) rfl) rfl rfl
                  have e233 : g 233 = .bool false := value_u (hd ⟨10, .data⟩ (by simp) rfl) rfl rfl
                  generalize hA : mkAct _ _ g = A
                  have h225 : A.tmps[225]?.getD undef = .bool false := by rw [← hA, mkAct_in2 _ _ _ _ rfl rfl]; exact e225
                  have h233 : A.tmps[233]?.getD undef = .bool false := by rw [← hA, mkAct_in2 _ _ _ _ rfl rfl]; exact e233
                  refine step_val (v := .bool false) (w' := w') ?_ ⟨rfl, Ext.refl _ _⟩
                  simp [execOp, h225, h233, Result.andThen, go_sem]
                case f12_44 =>
                  intro f v g w' hJ hfi hb hd
                  refine arm_u rfl ?_
                  refine op_run rfl ?_
                  have e234 : g 234 = .bool false := value_u (hd ⟨11, .data⟩ (by simp) rfl) rfl rfl
                  generalize hA : mkAct _ _ g = A
                  have h234 : A.tmps[234]?.getD undef = .bool false := by rw [← hA, mkAct_in2 _ _ _ _ rfl rfl]; exact e234
                  refine step_val (v := .bool false) (w' := w') ?_ ⟨rfl, Ext.refl _ _⟩
                  simp [execOp, h234, Result.andThen, go_sem]
                case f13_44 =>
                  intro f v g w' hJ hfi hb hd
                  refine arm_u rfl ?_
                  have eg : g 235 = .bool false := value_u (hd ⟨12, .guard⟩ (by simp) rfl) rfl rfl
                  refine op_yes rfl rfl rfl rfl eg ?_
                  generalize hA : mkAct _ _ g = A
                  have h21 : A.tmps[21]?.getD undef = .pointer (some ⟨q2, 0, none⟩) := by rw [← hA]; exact mkAct_out2 _ _ _ _ _ rfl rfl
                  refine step_val (v := .pointer (some ⟨q2, 0, none⟩)) (w' := w') ?_ ⟨rfl, Ext.refl _ _⟩
                  simp [execOp, h21, Result.andThen, go_sem]
                case f14_44 =>
                  intro f v g w' hJ hfi hb hd
                  refine arm_u rfl ?_
                  have eg : g 235 = .bool false := value_u (hd ⟨12, .guard⟩ (by simp) rfl) rfl rfl
                  refine op_yes rfl rfl rfl rfl eg ?_
                  have e236 : g 236 = .pointer (some ⟨q2, 0, none⟩) := value_u (hd ⟨13, .data⟩ (by simp) rfl) rfl rfl
                  generalize hA : mkAct _ _ g = A
                  have h236 : A.tmps[236]?.getD undef = .pointer (some ⟨q2, 0, none⟩) := by rw [← hA, mkAct_in2 _ _ _ _ rfl rfl]; exact e236
                  refine float_u (fun K hK => ?_)
                  go_simp
                  refine (cHu w' hJ).mono ?_
                  rintro e w2 ⟨rfl, hx2⟩
                  exact hK w2 hx2
                case f15_44 =>
                  intro f v g w' hJ hfi hb hd
                  refine arm_u rfl ?_
                  have eg : g 235 = .bool false := value_u (hd ⟨12, .guard⟩ (by simp) rfl) rfl rfl
                  refine op_yes rfl rfl rfl rfl eg ?_
                  generalize hA : mkAct _ _ g = A
                  have h16 : A.tmps[16]?.getD undef = .int .i64 r := by rw [← hA]; exact mkAct_out2 _ _ _ _ _ rfl rfl
                  refine step_val (v := .int .i64 r) (w' := w') ?_ ⟨rfl, Ext.refl _ _⟩
                  simp [execOp, h16, Result.andThen, go_sem]
                case f16_44 =>
                  intro f v g w' hJ hfi hb hd
                  refine arm_u rfl ?_
                  have eg : g 235 = .bool false := value_u (hd ⟨12, .guard⟩ (by simp) rfl) rfl rfl
                  refine op_yes rfl rfl rfl rfl eg ?_
                  have e237 : g 237 = .int .i64 r := value_u (hd ⟨14, .data⟩ (by simp) rfl) rfl rfl
                  have e238 : g 238 = .int .i64 r := value_u (hd ⟨15, .data⟩ (by simp) rfl) rfl rfl
                  generalize hA : mkAct _ _ g = A
                  have h237 : A.tmps[237]?.getD undef = .int .i64 r := by rw [← hA, mkAct_in2 _ _ _ _ rfl rfl]; exact e237
                  have h238 : A.tmps[238]?.getD undef = .int .i64 r := by rw [← hA, mkAct_in2 _ _ _ _ rfl rfl]; exact e238
                  refine step_val (v := .bool false) (w' := w') ?_ ⟨rfl, Ext.refl _ _⟩
                  simp [execOp, h237, h238, Result.andThen, go_sem]
                case f17_44 =>
                  intro f v g w' hJ hfi hb hd
                  refine arm_u rfl ?_
                  refine op_run rfl ?_
                  have e235 : g 235 = .bool false := value_u (hd ⟨12, .data⟩ (by simp) rfl) rfl rfl
                  have e239 : g 239 = .bool false := value_u (hd ⟨16, .data⟩ (by simp) rfl) rfl rfl
                  generalize hA : mkAct _ _ g = A
                  have h235 : A.tmps[235]?.getD undef = .bool false := by rw [← hA, mkAct_in2 _ _ _ _ rfl rfl]; exact e235
                  have h239 : A.tmps[239]?.getD undef = .bool false := by rw [← hA, mkAct_in2 _ _ _ _ rfl rfl]; exact e239
                  refine step_val (v := .bool false) (w' := w') ?_ ⟨rfl, Ext.refl _ _⟩
                  simp [execOp, h235, h239, Result.andThen, go_sem]
              intro f v g wn hJ hk
              have e240 : g 240 = .bool false := value_u (hk 17 (by decide)) rfl rfl
              have HS14 := Hid.of (HS13.out.keep hJ)
              clear hk hJ cL1 cL2 cHu HS13
              unfold mkAct; simp only [List.zipIdx_cons, List.zipIdx_nil, List.map_cons, List.map_nil, Nat.zero_add, Nat.reduceAdd, List.contains_cons, List.contains_nil, Nat.reduceBEq, Bool.or_false, Bool.or_true, ↓reduceIte, Bool.false_eq_true]
              rw [e240]
              clear e240
              obtain ⟨w14, hw14⟩ : ∃ w, w = wn := ⟨_, rfl⟩
              rw [← hw14] at HS14 ⊢
              clear hw14
              have c3 := HS14.out.c3
              go_wp2_with fail
              clear c3
              go_loopw [246] (fun u246 wr => ∃ (k : Nat) (eb1 mb1 kn1 : Int → Bool) (L3 : Lg) (V3 : Int → Sl), u246 = .int .i64 (k : Int) ∧ k ≤ M ∧ Hid (Lp eb mb first M k eb1 mb1 kn1) ∧ Hid (Tells L3 V3 all eb1 mb1 kn1) ∧ Hid (Open9 L3 V3 all.length) ∧ Hid (L3.base = 3 ∧ L3.size = 8 ∧ L3.first = first) ∧ Hid (HmS w0 wq b' q' q2 first a' M cap' vm all (fun i => badv (eb i) (mb i)) mB O0 L3 V3 wr)) (fun u246 _ => M - (intOf u246).toNat)
              case atStart => exact ⟨0, eb, _, _, L2, V2, rfl, by omega, Hid.of (Lp.start eb mb first M), HT2, HOp2, HL2, HS14⟩
              case round => as_aux_lemma =>
                clear HS14 HT2 HOp2 HL2
                obtain ⟨k, eb1, mb1, kn1, L3, V3, rfl, hk, HLp, HT3, HOp3, HL3, HS⟩ := hrel
                by_cases hkM : k < M
                · as_aux_lemma =>
                  have hka : k < all.length := by have := HM.out; omega
                  have hT := HT3.out.read k hka (hAO.out _ (List.getElem_mem _)).1
                  have hTa := HT3.out.termA k hka
                  have hmd := HT3.out.mend HS.out.log.ok k hka
                  obtain ⟨p1, p2, p3⟩ := HLp.out.left k (Nat.le_refl _) hkM
                  rw [HL3.out.2.2, p1, p3] at hT
                  rw [HL3.out.2.2, p3] at hTa
                  have hxi := HT3.out.laid.idx k hka
                  rw [HL3.out.2.2] at hxi hmd
                  have hok := hAO.out all[k] (List.getElem_mem _)
                  obtain ⟨zg, zo, x, hza, hxk, d0, d1, d2⟩ := HS.out.ent k hkM
                  have hxe : all[k] = x := (List.getElem?_eq_some_iff.1 hxk).2
                  rw [hxe] at hT hxi hok hTa hmd
                  subst hza
                  obtain ⟨xi, xt, xd⟩ := x
                  simp only at hT hxi hok hTa d0 d1 d2
                  subst hxi
                  have hom := HOp3.out.mend (x := ⟨first + (k : Int), xt, xd⟩) HS.out.log.ok HT3.out.laid.pos hka (by rw [HL3.out.2.2])
                  have hla : L3.last = first + (M : Int) - 1 := by rw [HT3.out.last, HL3.out.2.2, ← HM.out]
                  have hlp1 := HLp.out.mended
                  have HMd := Hid.of hmd
                  have HOm := Hid.of hom
                  have HLa3 := Hid.of hla
                  have HLp1 := Hid.of hlp1
                  have HTa := Hid.of hTa
                  obtain ⟨Xb, hXb⟩ : ∃ x, x = wr.heap.size := ⟨_, rfl⟩
                  obtain ⟨w10, hw10⟩ : ∃ W, W = wr.alloc (.cells #[.int .i64 (first + (k : Int)), .int .i64 xt, .string ⟨xd.toArray⟩] 37) := ⟨_, rfl⟩
                  have hx10 : Ext [] wr w10 := by rw [hw10]; exact (Ext.refl _ _).alloc _
                  have hb10 : Blk w10 Xb 37 [.int .i64 (first + (k : Int)), .int .i64 xt, .string ⟨xd.toArray⟩] := by rw [hw10]; exact Blk.newg hXb.symm
                  obtain ⟨Oh, hOh⟩ : ∃ O, O = Xb :: O0 := ⟨_, rfl⟩
                  have HS10 : Hid (HmS w0 wq b' q' q2 first (some ⟨zg, zo, none⟩) M cap' vm all (fun i => badv (eb i) (mb i)) mB Oh L3 V3 w10) := Hid.of (by rw [hOh]; exact HS.out.add hx10 Xb (by omega) (Blk.lt hb10))
                  have HB10 := Hid.of hb10
                  have HOh : Hid (Xb ∈ Oh ∧ ∀ z ∈ O0, z ∈ Oh) := Hid.of (by rw [hOh]; exact ⟨by simp, fun z hz => List.mem_cons_of_mem _ hz⟩)
                  have HZ0 : Hid (wq ∈ O0 ∧ mB ∈ O0 ∧ ∀ z ∈ vblocks (.slice (some ⟨zg, zo, none⟩) M cap'), z ∈ O0) := Hid.of ⟨by rw [HO0.out]; simp, by rw [HO0.out]; simp, fun z hz => by rw [HO0.out]; simp [hz]⟩
                  obtain ⟨hok1, hok2, hok3⟩ := hok
                  obtain ⟨hT1, hT2⟩ := hT
                  have cR := HS10.out.log.read (first + (k : Int))
                  rw [hT1, hT2] at cR
                  obtain ⟨ek, hek⟩ : ∃ e, e = eb (first + (k : Int)) := ⟨_, rfl⟩
                  obtain ⟨mk, hmk⟩ : ∃ e, e = mb (first + (k : Int)) := ⟨_, rfl⟩
                  have HEM := Hid.of (And.intro hek hmk)
                  rw [← hek, ← hmk] at cR
                  clear hx10 hb10 hOh hxk hxe hmd hom hla hlp1 hTa p1 p2 p3 hek hmk hT1 hT2
                  go_upto_region 49 with fail
                  rw [← hXb, ← hw10]
                  clear hXb hw10 d0 d1 d2 HS
                  have c2 := HS10.out.c2
                  cases ek with
                  | false =>
                    have cR2 : Calls Try.prog 18 #[.pointer (some ⟨q2, 0, none⟩), .int .i64 (first + (k : Int))] w10 fun e w' => e = .returned (.tuple #[.agg #[.int .i64 (first + (k : Int)), .int .i64 xt, .string ⟨xd.toArray⟩], .int .i64 1]) ∧ LgX w0 w' q2 b' L3 19 V3 Oh ∧ Kept Oh w10 w' := cR
                    clear cR
                    go_wp2_with fail
                    refine cR2.mono ?_
                    rintro e w11 ⟨rfl, hl11, hk11⟩
                    have HS11 := Hid.of (HS10.out.turn hl11 hk11)
                    have HB11 := Hid.of (hk11.blk HB10.out HOh.out.1)
                    clear cR2 hl11 hk11 c2 HS10 HB10
                    go_upto_region 50 with fail
                    obtain ⟨G, hG⟩ : ∃ x, x = w11.heap.size := ⟨_, rfl⟩
                    obtain ⟨w12, hw12⟩ : ∃ W, W = w11.alloc (.cells #[.int .i64 (first + (k : Int)), .int .i64 xt, .string ⟨xd.toArray⟩] 37) := ⟨_, rfl⟩
                    have hx12 : Ext [] w11 w12 := by rw [hw12]; exact (Ext.refl _ _).alloc _
                    have hb12 : Blk w12 G 37 [.int .i64 (first + (k : Int)), .int .i64 xt, .string ⟨xd.toArray⟩] := by rw [hw12]; exact Blk.newg hG.symm
                    rw [← hG, ← hw12]
                    have HS12 := Hid.of (HS11.out.keep hx12)
                    have HB12 := Hid.of (Blk.keep HB11.out hx12 (by simp))
                    have c2 := HS12.out.c2
                    have x0 : w12.cell? ⟨Xb, 0, none⟩ = some (.int .i64 (first + (k : Int))) := Blk.c HB12.out 0
                    have x1 : w12.cell? ⟨Xb, 1, none⟩ = some (.int .i64 xt) := Blk.c HB12.out 1
                    have x2 : w12.cell? ⟨Xb, 2, none⟩ = some (.string ⟨xd.toArray⟩) := Blk.c HB12.out 2
                    have g0 : w12.cell? ⟨G, 0, none⟩ = some (.int .i64 (first + (k : Int))) := Blk.c hb12 0
                    have g1 : w12.cell? ⟨G, 1, none⟩ = some (.int .i64 xt) := Blk.c hb12 1
                    have g2 : w12.cell? ⟨G, 2, none⟩ = some (.string ⟨xd.toArray⟩) := Blk.c hb12 2
                    have hlk := HS12.out.bad.lookup (P := Try.prog) Try.underlying45 Try.underlying3 zero_intH (first + (k : Int))
                    clear hG hw12 hx12 hb12 HS11 HB11
                    have hlk2 : (Instr.lookup 45 (.map (some mB)) (.int .i64 (first + (k : Int))) false).run Try.prog w12 = .ok (.int .i64 0) w12 := by
                      rw [← HEM.out.1] at hlk
                      exact hlk
                    have HLg := Hid.of (HLp.out.good (by omega) HEM.out.1.symm)
                    have HSm := Hid.of (HS12.out.sub (O' := O0) HOh.out.2 HZ0.out.1 HZ0.out.2.1 HZ0.out.2.2)
                    clear hlk
                    go_wp2
                    go_roundw
                    case rel => exact ⟨k + 1, eb1, mb1, kn1, L3, V3, by go_num, by omega, HLg, HT3, HOp3, HL3, HSm⟩
                    case measure => simp [intOf]; omega
                  | true =>
                    cases mk with
                    | false =>
                      have cR2 : Calls Try.prog 18 #[.pointer (some ⟨q2, 0, none⟩), .int .i64 (first + (k : Int))] w10 fun e w' => e = .returned (.tuple #[.agg #[.int .i64 (first + (k : Int)), .int .i64 xt, .string ⟨#[]⟩], .int .i64 2]) ∧ LgX w0 w' q2 b' L3 19 V3 Oh ∧ Kept Oh w10 w' := cR
                      clear cR
                      go_wp2_with fail
                      refine cR2.mono ?_
                      rintro e w11 ⟨rfl, hl11, hk11⟩
                      have HS11 := Hid.of (HS10.out.turn hl11 hk11)
                      have HB11 := Hid.of (hk11.blk HB10.out HOh.out.1)
                      clear cR2 hl11 hk11 c2 HS10 HB10
                      go_upto_region 50 with fail
                      obtain ⟨G, hG⟩ : ∃ x, x = w11.heap.size := ⟨_, rfl⟩
                      obtain ⟨w12, hw12⟩ : ∃ W, W = w11.alloc (.cells #[.int .i64 (first + (k : Int)), .int .i64 xt, .string ⟨#[]⟩] 37) := ⟨_, rfl⟩
                      have hx12 : Ext [] w11 w12 := by rw [hw12]; exact (Ext.refl _ _).alloc _
                      have hb12 : Blk w12 G 37 [.int .i64 (first + (k : Int)), .int .i64 xt, .string ⟨#[]⟩] := by rw [hw12]; exact Blk.newg hG.symm
                      rw [← hG, ← hw12]
                      have HS12 := Hid.of (HS11.out.keep hx12)
                      have HB12 := Hid.of (Blk.keep HB11.out hx12 (by simp))
                      have c2 := HS12.out.c2
                      have x0 : w12.cell? ⟨Xb, 0, none⟩ = some (.int .i64 (first + (k : Int))) := Blk.c HB12.out 0
                      have x1 : w12.cell? ⟨Xb, 1, none⟩ = some (.int .i64 xt) := Blk.c HB12.out 1
                      have x2 : w12.cell? ⟨Xb, 2, none⟩ = some (.string ⟨xd.toArray⟩) := Blk.c HB12.out 2
                      have g0 : w12.cell? ⟨G, 0, none⟩ = some (.int .i64 (first + (k : Int))) := Blk.c hb12 0
                      have g1 : w12.cell? ⟨G, 1, none⟩ = some (.int .i64 xt) := Blk.c hb12 1
                      have g2 : w12.cell? ⟨G, 2, none⟩ = some (.string ⟨#[]⟩) := Blk.c hb12 2
                      have hlk := HS12.out.bad.lookup (P := Try.prog) Try.underlying45 Try.underlying3 zero_intH (first + (k : Int))
                      clear hG hw12 hx12 hb12 HS11 HB11
                      have hlk2 : (Instr.lookup 45 (.map (some mB)) (.int .i64 (first + (k : Int))) false).run Try.prog w12 = .ok (.int .i64 1) w12 := by
                        rw [← HEM.out.1, ← HEM.out.2] at hlk
                        exact hlk
                      have hta : L3.term (first + (k : Int)) = xt := by
                        rw [HTa.out, ← HEM.out.1, ← HEM.out.2]
                        rfl
                      have cG := HS12.out.log.mend_gap ⟨first + (k : Int), xt + 1, []⟩ (by rw [HL3.out.2.2]; show first ≤ first + (k : Int); omega) (by rw [HLa3.out]; show first + (k : Int) ≤ _; omega) (by show 1 ≤ xt + 1; omega) (by show xt + 1 ≤ _; omega) (by simp) (by show 0 < L3.term (first + (k : Int)); omega) (by show L3.term (first + (k : Int)) ≠ xt + 1; omega)
                      clear hlk
                      go_wp2_with fail
                      refine cG.mono ?_
                      rintro e w13 ⟨rfl, hx13⟩
                      have HS13 := Hid.of (HS12.out.keep hx13)
                      have HB13 := Hid.of (Blk.keep HB12.out hx13 (by simp))
                      have cM := HS13.out.log.mendc ⟨first + (k : Int), xt, xd⟩ (by rw [HL3.out.2.2]; show first ≤ first + (k : Int); omega) (by rw [HLa3.out]; show first + (k : Int) ≤ _; omega) hok1 (by show xt ≤ _; omega) (by show xd.length ≤ 488; omega) (.inr hta)
                      clear cG hx13 hta hlk2 c2 x0 x1 x2 g0 g1 g2 HS12 HB12
                      have x0 : w13.cell? ⟨Xb, 0, none⟩ = some (.int .i64 (first + (k : Int))) := Blk.c HB13.out 0
                      have x1 : w13.cell? ⟨Xb, 1, none⟩ = some (.int .i64 xt) := Blk.c HB13.out 1
                      have x2 : w13.cell? ⟨Xb, 2, none⟩ = some (.string ⟨xd.toArray⟩) := Blk.c HB13.out 2
                      simp only [Ent.val] at cM
                      go_wp2_with fail
                      refine cM.mono ?_
                      rintro e w14 ⟨rfl, hl14, hk14⟩
                      have HSm := Hid.of ((HS13.out.turn hl14 hk14).sub (O' := O0) HOh.out.2 HZ0.out.1 HZ0.out.2.1 HZ0.out.2.2)
                      have HL4 : Hid ((L3.mend ⟨first + (k : Int), xt, xd⟩).base = 3 ∧ (L3.mend ⟨first + (k : Int), xt, xd⟩).size = 8 ∧ (L3.mend ⟨first + (k : Int), xt, xd⟩).first = first) := Hid.of HL3.out
                      clear cM hl14 hk14 x0 x1 x2 HS13 HB13
                      go_wp2
                      go_roundw
                      case rel => exact ⟨k + 1, _, _, _, _, _, by go_num, by omega, HLp1, HMd, HOm, HL4, HSm⟩
                      case measure => simp [intOf]; omega
                    | true =>
                      have cR2 : Calls Try.prog 18 #[.pointer (some ⟨q2, 0, none⟩), .int .i64 (first + (k : Int))] w10 fun e w' => e = .returned (.tuple #[.agg #[.int .i64 (first + (k : Int)), .int .i64 0, .string ⟨#[]⟩], .int .i64 3]) ∧ LgX w0 w' q2 b' L3 19 V3 Oh ∧ Kept Oh w10 w' := cR
                      clear cR
                      go_wp2_with fail
                      refine cR2.mono ?_
                      rintro e w11 ⟨rfl, hl11, hk11⟩
                      have HS11 := Hid.of (HS10.out.turn hl11 hk11)
                      have HB11 := Hid.of (hk11.blk HB10.out HOh.out.1)
                      clear cR2 hl11 hk11 c2 HS10 HB10
                      go_upto_region 50 with fail
                      obtain ⟨G, hG⟩ : ∃ x, x = w11.heap.size := ⟨_, rfl⟩
                      obtain ⟨w12, hw12⟩ : ∃ W, W = w11.alloc (.cells #[.int .i64 (first + (k : Int)), .int .i64 0, .string ⟨#[]⟩] 37) := ⟨_, rfl⟩
                      have hx12 : Ext [] w11 w12 := by rw [hw12]; exact (Ext.refl _ _).alloc _
                      have hb12 : Blk w12 G 37 [.int .i64 (first + (k : Int)), .int .i64 0, .string ⟨#[]⟩] := by rw [hw12]; exact Blk.newg hG.symm
                      rw [← hG, ← hw12]
                      have HS12 := Hid.of (HS11.out.keep hx12)
                      have HB12 := Hid.of (Blk.keep HB11.out hx12 (by simp))
                      have c2 := HS12.out.c2
                      have x0 : w12.cell? ⟨Xb, 0, none⟩ = some (.int .i64 (first + (k : Int))) := Blk.c HB12.out 0
                      have x1 : w12.cell? ⟨Xb, 1, none⟩ = some (.int .i64 xt) := Blk.c HB12.out 1
                      have x2 : w12.cell? ⟨Xb, 2, none⟩ = some (.string ⟨xd.toArray⟩) := Blk.c HB12.out 2
                      have g0 : w12.cell? ⟨G, 0, none⟩ = some (.int .i64 (first + (k : Int))) := Blk.c hb12 0
                      have g1 : w12.cell? ⟨G, 1, none⟩ = some (.int .i64 0) := Blk.c hb12 1
                      have g2 : w12.cell? ⟨G, 2, none⟩ = some (.string ⟨#[]⟩) := Blk.c hb12 2
                      have hlk := HS12.out.bad.lookup (P := Try.prog) Try.underlying45 Try.underlying3 zero_intH (first + (k : Int))
                      clear hG hw12 hx12 hb12 HS11 HB11
                      have hlk2 : (Instr.lookup 45 (.map (some mB)) (.int .i64 (first + (k : Int))) false).run Try.prog w12 = .ok (.int .i64 2) w12 := by
                        rw [← HEM.out.1, ← HEM.out.2] at hlk
                        exact hlk
                      have hta : L3.term (first + (k : Int)) = 0 := by
                        rw [HTa.out, ← HEM.out.1, ← HEM.out.2]
                        rfl
                      have HS13 := HS12
                      have HB13 := HB12
                      have cM := HS13.out.log.mendc ⟨first + (k : Int), xt, xd⟩ (by rw [HL3.out.2.2]; show first ≤ first + (k : Int); omega) (by rw [HLa3.out]; show first + (k : Int) ≤ _; omega) hok1 (by show xt ≤ _; omega) (by show xd.length ≤ 488; omega) (.inl hta)
                      clear hlk hta HS12 HB12
                      have y0 : w12.cell? ⟨Xb, 0, none⟩ = some (.int .i64 (first + (k : Int))) := Blk.c HB13.out 0
                      have y1 : w12.cell? ⟨Xb, 1, none⟩ = some (.int .i64 xt) := Blk.c HB13.out 1
                      have y2 : w12.cell? ⟨Xb, 2, none⟩ = some (.string ⟨xd.toArray⟩) := Blk.c HB13.out 2
                      simp only [Ent.val] at cM
                      go_wp2_with fail
                      refine cM.mono ?_
                      rintro e w14 ⟨rfl, hl14, hk14⟩
                      have HSm := Hid.of ((HS13.out.turn hl14 hk14).sub (O' := O0) HOh.out.2 HZ0.out.1 HZ0.out.2.1 HZ0.out.2.2)
                      have HL4 : Hid ((L3.mend ⟨first + (k : Int), xt, xd⟩).base = 3 ∧ (L3.mend ⟨first + (k : Int), xt, xd⟩).size = 8 ∧ (L3.mend ⟨first + (k : Int), xt, xd⟩).first = first) := Hid.of HL3.out
                      clear cM hl14 hk14 x0 x1 x2 HS13 HB13
                      go_wp2
                      go_roundw
                      case rel => exact ⟨k + 1, _, _, _, _, _, by go_num, by omega, HLp1, HMd, HOm, HL4, HSm⟩
                      case measure => simp [intOf]; omega
                · as_aux_lemma =>
                  obtain ⟨w15, hw15⟩ : ∃ w, w = wr := ⟨_, rfl⟩
                  rw [← hw15] at HS ⊢
                  have hkM2 : k = M := by omega
                  have hsol : Solid L3 V3 all := HT3.out.solid HOp3.out (fun j hj => by
                    have := HLp.out.done j (by have := HM.out; omega) (by have := HM.out; omega)
                    rwa [HL3.out.2.2])
                  have HSol := Hid.of hsol
                  have c1 := HS.out.c1
                  have f1 := Blk.f HS.out.blk 1
                  clear hw15 hsol hkM2 HLp HT3 HOp3
                  go_upto_region 63 with fail
                  obtain ⟨w16, hw16⟩ : ∃ w, w = w15.setCell ⟨wq, 1, none⟩ (.pointer (some ⟨q2, 0, none⟩)) := ⟨_, rfl⟩
                  have hx16 : Ext [wq] w15 w16 := by rw [hw16]; exact (Ext.refl [wq] w15).setCell (.inl (by simp)) _
                  have hb16 : Blk w16 wq 35 [.pointer (some ⟨b', 0, none⟩), .pointer (some ⟨q2, 0, none⟩), .int .i64 first, .slice a' M cap', vm] := by rw [hw16]; exact Blk.set HS.out.blk 1 _
                  have hRS : RSt w0 w16 wq b' q2 first vm all [] a' cap' := by
                    have e := HM.out
                    have e2 := HO0.out
                    rw [e] at e2 hb16
                    have hl := (HS.out.log.other hx16 HS.out.wO HS.out.new).sub (O' := wq :: (vblocks (.slice a' all.length cap') ++ [])) (fun z hz => by rw [e2]; exact List.mem_cons_of_mem _ hz)
                    have hr := HS.out.rd.keep hx16 (fun z hz hm => by simp at hm; subst hm; exact HS.out.nw hz)
                    have hn := HS.out.nw
                    rw [e] at hr hn
                    exact ⟨⟨L3, V3, ⟨hb16, hl, HS.out.new, by simpa using hn⟩, HSol.out, HL3.out.1, HL3.out.2.1, HL3.out.2.2⟩, hr⟩
                  have HRS := Hid.of hRS
                  rw [← hw16]
                  clear hw16 hx16 hb16 hRS HS HSol HL3 c1 f1
                  go_wp2_with fail
                  refine HRS.out.shows.mono ?_
                  rintro e w17 ⟨rfl, hx17⟩
                  have hR17 := HRS.out.keep hx17
                  have HR17 := Hid.of hR17
                  obtain ⟨L5, V5, hW5, hS5, g1, g2, g3⟩ := hR17.1
                  have hq0 := hR17.1.new0
                  obtain ⟨Ow, hOw⟩ : ∃ O, O = vblocks (.slice a' all.length cap') ++ [] := ⟨_, rfl⟩
                  have hcr := crash_x hW5.log.dev (by omega) none 0 0 [] (Rd.nil _ _) (wq :: Ow) (by rw [hOw]; exact hW5.log.lt)
                  have HS5 := Hid.of (And.intro hS5 (And.intro g1 (And.intro g2 g3)))
                  have HB5 := Hid.of hW5.blk
                  have HQ0 := Hid.of hq0
                  have HOw := Hid.of hOw
                  obtain ⟨va, hva⟩ : ∃ v, v = Value.slice a' all.length cap' := ⟨_, rfl⟩
                  have HVa := Hid.of hva
                  have c0 : w17.cell? ⟨wq, 0, none⟩ = some (.pointer (some ⟨b', 0, none⟩)) := Blk.c hW5.blk 0
                  clear hx17 hR17 hW5 hS5 g1 g2 g3 hq0 hOw hva HRS
                  go_wp2_with fail
                  refine hcr.mono ?_
                  rintro e w18 ⟨b2, rfl, hd18, hx18⟩
                  have hb18 := Blk.keep HB5.out hx18 List.not_mem_nil
                  have HB18 := Hid.of hb18
                  have HD18 := Hid.of hd18
                  have HR18 := Hid.of (HR17.out.2.keep hx18 (by simp))
                  have d0 : w18.cell? ⟨wq, 0, none⟩ = some (.pointer (some ⟨b', 0, none⟩)) := Blk.c hb18 0
                  have f0 := Blk.f hb18 0
                  clear hcr c0 hd18 hx18 hb18
                  go_upto_region 66 with fail
                  obtain ⟨w19, hw19⟩ : ∃ w, w = w18.setCell ⟨wq, 0, none⟩ (.pointer (some ⟨b2, 0, none⟩)) := ⟨_, rfl⟩
                  have hx19 : Ext [wq] w18 w19 := by rw [hw19]; exact (Ext.refl [wq] w18).setCell (.inl (by simp)) _
                  have hb19 : Blk w19 wq 35 [.pointer (some ⟨b2, 0, none⟩), .pointer (some ⟨q2, 0, none⟩), .int .i64 first, .slice a' all.length cap', vm] := by rw [hw19]; exact Blk.set HB18.out 0 _
                  have hd19 := HD18.out.other hx19 (by simp) HQ0.out.1
                  have hr19 : Rd w19 3 (.slice a' all.length cap') all.length (all.flatMap Ent.cells) := HR18.out.keep hx19 (fun z hz hm => by simp at hm; subst hm; exact HQ0.out.2.2 (by simp [hz]))
                  rw [HOw.out] at hd19
                  have cA := again_g (O := []) (by omega) (by omega) ⟨HQ0.out.1, Blk.lt hb19, HQ0.out.2.2⟩ hb19 hd19 HS5.out.1 HS5.out.2.1 HS5.out.2.2.1 HS5.out.2.2.2 hr19 none 0 0 [] (Rd.nil _ _)
                  rw [← hw19]
                  clear hw19 hx19 hb19 hd19 hr19 d0 f0 HB18 HD18 HR18
                  go_wp2_with fail
                  refine cA.mono ?_
                  rintro e w20 ⟨rfl, b3, q3, hr20, -⟩
                  have HXe := Hid.of hr20.1.ext
                  clear cA hr20
                  go_wp2
                  go_ret
                  exact ⟨rfl, HXe.out⟩
end Go.Proofs.Ytmjgbkepngeckaa
namespace Go.Proofs.Ytmjgbkepngeckaa.plogHarms
open Go.ChangeShapes Go.WideShapes Go.ChangeAt Go.RowKit
open Go.ChangeMaps (open_string shut_string)
set_option linter.unusedVariables false

set_option maxRecDepth 100000 in
theorem lifted (os : Go.Os) (started : os.Started) (H : Type) (enc : TypeId × Value → H) :
    ReturnsInHanded {} Try.checked os 4 .any (Rows.plogHarmsSpec.pre6 enc Try.prog Try.f4 Rows.plogHarmsRow.domain false) (Rows.plogHarmsSpec.post enc Try.prog Try.f4 false true false false) := by
  refine returnsInHanded_of_change (C := Try.checked) Try.own started (by kernel_rfl) Try.func4
    (ChangeSpec.witness6 (enc := enc) (C := Try.checked) false ⟨#[], #[.slice none 0 0, .slice none 0 0], []⟩ 8 (by kernel_rfl) (by kernel_rfl) (by kernel_rfl) (by kernel_rfl)) ?_
  intro W base args ds gs before hval0 hW hcnd _
  have hval : ∀ (j : Nat) t v, Try.f4.params[j]? = some t → args[j]? = some v → Value.okWide Try.prog W .any base t v := hval0
  have hW' := hW
  obtain ⟨p, q, hA0, hV, rfl, hfz, hnd⟩ := hW
  have hA : DataW.TrodAll enc Try.prog W 0 (fun _ => true) true Try.f4.params.toList args.toList ds p := hA0
  rw [Try.params4] at hA hval
  obtain ⟨v0, vs0, d0, ds0, p0, q0, hargs, rfl, rfl, h0, r0⟩ := trodAll_cons hA
  obtain ⟨v1, vs1, d1, ds1, p1, q1, rfl, rfl, rfl, h1, r1⟩ := trodAll_cons r0
  obtain ⟨rfl, rfl, rfl⟩ := trodAll_nil r1
  obtain rfl : args = #[v0, v1] := by cases args; simp_all
  obtain ⟨rfl, rfl⟩ := trodVars_none hV
  have k0 := h0
  have lt0 : ∀ x ∈ p0, x.block < W.heap.size := by obtain ⟨m, hm⟩ := k0; exact DataW.trod_lt m _ _ _ hm
  have k1 := h1
  have lt1 : ∀ x ∈ p1, x.block < W.heap.size := by obtain ⟨m, hm⟩ := k1; exact DataW.trod_lt m _ _ _ hm
  obtain ⟨a0, len0, cap0, rfl⟩ := okWide_slice Try.underlying22 (hval 0 22 v0 rfl rfl)
  obtain ⟨z0, w0, u0⟩ := rd_acts6 h0
  obtain ⟨a1, len1, cap1, rfl⟩ := okWide_slice Try.underlying44 (hval 1 44 v1 rfl rfl)
  obtain ⟨z1, w1, u1⟩ := rd_harms6 h1
  clear hA0 hval0
  refine (pharms_any a0 len0 cap0 z0 w0 u0 a1 len1 cap1 z1 w1 u1).mono fun e W' ⟨he, hx⟩ => ?_
  subst he
  have bel : Below W.heap.size W W' := hx.below (by simp)
  exact ⟨_, rfl, _, _, _, [], _, [], hW', trodAll_mk1 (shut_bool Try.underlying4 _), (trodAll_cons_mk (Below.trod Try.laidOut (by kernel_rfl) (of_decide_eq_true (by kernel_rfl)) k0 bel lt0) (trodAll_cons_mk (Below.trod Try.laidOut (by kernel_rfl) (of_decide_eq_true (by kernel_rfl)) k1 bel lt1) trodAll_mk0)), rfl, bel.frame _, fun h => by cases h⟩

theorem proved : Rows.PlogHarmsSaid :=
  OpenClaim.holds_of_wide 4 Try.f4 rfl rfl rfl rfl rfl rfl rfl ⟨rfl, rfl, rfl, rfl, rfl⟩ rfl rfl rfl rfl rfl (by kernel_rfl) Try.func4 (by kernel_rfl)
    (of_decide_eq_true (by kernel_rfl)) (by unfold Func.isWrapper; first | (rw [if_pos (by decide +kernel)]; kernel_rfl) | (rw [if_neg (by decide +kernel)]; exact ⟨rfl, rfl⟩))
    (fun os started H enc _ => lifted os started H enc)
#print axioms proved
end Go.Proofs.Ytmjgbkepngeckaa.plogHarms
