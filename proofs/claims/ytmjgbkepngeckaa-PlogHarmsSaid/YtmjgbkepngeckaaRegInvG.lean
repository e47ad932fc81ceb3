/- A region that draws its order, with guards: every operation only reads, makes memory or calls what does, or is left out by its guard. No function of the program is named here. -/
import Derived.Test.YtmjgbkepngeckaaRegInv
namespace Go.Proofs.Ytmjgbkepngeckaa
open Go.RowKit
set_option linter.unusedVariables false

section
variable {P : Program} {ops : Array Oper} {Q : Exit → Act → World → Prop}
/-- An operation, or its being left out. -/
def OpOb (P : Program) (ops : Array Oper) (Q : Exit → Act → World → Prop) (o : Oper) (a : Act) (w : World) (K : Act → World → Prop) : Prop :=
  (Region.wanted o (yielded ops a.tmps) = true ∧ o.wp P a w K Q) ∨ (Region.wanted o (yielded ops a.tmps) = false ∧ K (a.put o.dst undef) w)
theorem yield_of {base : Array Value} {D : List Nat} {g : Nat → Value} {j d : Nat} {c : Bool} (hd : (ops[j]?).bind (·.dst) = some d) (hD : D.contains d = true) (hb : decide (d < base.size) = true) (hv : g d = .bool c) : yielded ops (mkAct base D g).tmps j = some c := by
  have hb' : d < base.size := by simpa using hb
  have hD' : d ∈ D := by simpa using hD
  have ht : (mkAct base D g).tmps[d]? = some (.bool c) := by simp [mkAct, hb', hD', hv]
  unfold yielded
  rw [hd]
  simp only [Option.bind_some, ht]
theorem op_run {o : Oper} {a : Act} {w : World} {K : Act → World → Prop} (hg : o.guard = none) (h : o.wp P a w K Q) : OpOb P ops Q o a w K := .inl ⟨by simp [Region.wanted, hg], h⟩
theorem op_yes {base : Array Value} {D : List Nat} {g : Nat → Value} {o : Oper} {j d : Nat} {c : Bool} {w : World} {K : Act → World → Prop} (hg : o.guard = some (j, c)) (hd : (ops[j]?).bind (·.dst) = some d) (hD : D.contains d = true) (hb : decide (d < base.size) = true) (hv : g d = .bool c)
    (h : o.wp P (mkAct base D g) w K Q) : OpOb P ops Q o (mkAct base D g) w K := .inl ⟨by simp [Region.wanted, hg, yield_of hd hD hb hv], h⟩
theorem op_no {base : Array Value} {D : List Nat} {g : Nat → Value} {o : Oper} {j d : Nat} {c : Bool} {w : World} {K : Act → World → Prop} (hg : o.guard = some (j, c)) (hd : (ops[j]?).bind (·.dst) = some d) (hD : D.contains d = true) (hb : decide (d < base.size) = true) (c' : Bool) (hv : g d = .bool c') (hc : c' ≠ c)
    (h : K ((mkAct base D g).put o.dst undef) w) : OpOb P ops Q o (mkAct base D g) w K := .inr ⟨by simp [Region.wanted, hg, yield_of hd hD hb hv, hc], h⟩

/-- The checks of a region's text. -/
def okOpsG (ops : Array Oper) (D : List Nat) : Bool :=
  (List.range ops.size).all (fun i => (ops[i]?).all fun o => o.dst.isSome && D.contains (slotOf ops i) && o.after.all fun e => !Region.binds .any e || decide (e.on < i)) &&
  (List.range ops.size).all (fun i => (List.range ops.size).all fun j => decide (i = j) || decide (slotOf ops i ≠ slotOf ops j))
theorem wp_region_invg {id : Nat} {a : Act} {w : World} (hm : P.follows .mixedOrders = true) (base : Array Value) (D : List Nat) (g0 : Nat → Value) (ha : a = mkAct base D g0) (hok : okOpsG ops D = true)
    (Φ : Nat → Value → World → Prop) (hst : ∀ (i : Nat) (v : Value) (w w' : World), Φ i v w → Ext [] w w' → Φ i v w')
    (hstep : ∀ (i : Nat) (o : Oper) (g : Nat → Value) (w' : World), ops[i]? = some o → Ext [] w w' → (∀ e ∈ o.after, Region.binds .any e = true → Φ e.on (g (slotOf ops e.on)) w') →
      OpOb P ops Q o (mkAct base D g) w' (fun a' w'' => ∃ v, a' = (mkAct base D g).put o.dst v ∧ Ext [] w' w'' ∧ Φ i v w''))
    (hdone : ∀ (g : Nat → Value) (w' : World), Ext [] w w' → (∀ i, i < ops.size → Φ i (g (slotOf ops i)) w') → Q .normal (mkAct base D g) w') :
    (Code.region id ops true).wp P Q a w := by
  unfold okOpsG at hok
  rw [Bool.and_eq_true, List.all_eq_true, List.all_eq_true] at hok
  have hO : ∀ i o, ops[i]? = some o → o.dst = some (slotOf ops i) ∧ D.contains (slotOf ops i) = true ∧ ∀ e ∈ o.after, Region.binds .any e = true → e.on < i := by
    intro i o ho
    have hlt : i < ops.size := (Array.getElem?_eq_some_iff.1 ho).1
    have h := hok.1 i (by simpa using hlt)
    rw [ho] at h
    simp only [Option.all_some, Bool.and_eq_true] at h
    refine ⟨?_, h.1.2, fun e he hb => ?_⟩
    · obtain ⟨d, hd⟩ := Option.isSome_iff_exists.1 h.1.1
      unfold slotOf; rw [ho]; simp [hd]
    · have := Array.all_eq_true_iff_forall_mem.1 h.2 e he
      simp only [hb, Bool.not_true, Bool.false_or, decide_eq_true_eq] at this
      exact this
  have hI : ∀ i j, i < ops.size → j < ops.size → i ≠ j → slotOf ops i ≠ slotOf ops j := by
    intro i j hi hj hne
    have h := hok.2 i (by simpa using hi)
    rw [List.all_eq_true] at h
    have h2 := h j (by simpa using hj)
    simp only [Bool.or_eq_true, decide_eq_true_eq] at h2
    exact h2.resolve_left hne
  refine wp_region_any hm (wpAny_inv (Inv := InvR ops base D Φ w) ?_ ?_ ops.size _ _ _ (by simp) ⟨by simp, (Ext.refl _ w).drew, g0, ha, ?_⟩)
  · rintro L a1 w1 ⟨hs, hx, g, rfl, hΦ⟩ hr
    refine hdone g w1 hx (fun i => ?_)
    induction i using Nat.strongRecOn with
    | ind i ih =>
      intro hi
      refine hΦ i ?_
      have hL : L[i]? = some L[i] := by simp [hs, hi]
      rw [hL]
      cases hb : L[i] with
      | true => rfl
      | false =>
        exfalso
        have : i ∈ Region.ready .any ops L := by
          rw [mem_ready]
          refine ⟨by simp [hL, hb], ops[i], by simp [hi], fun e he hbd => ?_⟩
          have hlt := (hO i ops[i] (by simp [hi])).2.2 e he hbd
          -- an edge leads to what has come up, else that one were ready ahead
          by_cases hLe : L[e.on]? = some true
          · simp [hLe]
          · exfalso
            have hmin : ∀ n, n < ops.size → L[n]? = some false → False := by
              intro n
              induction n using Nat.strongRecOn with
              | ind n ihn =>
                intro hn hLn
                have hrn : n ∈ Region.ready .any ops L := by
                  rw [mem_ready]
                  refine ⟨by simp [hLn], ops[n], by simp [hn], fun e he hbd => ?_⟩
                  have hlt2 := (hO n ops[n] (by simp [hn])).2.2 e he hbd
                  have hsz : e.on < L.size := by omega
                  have hLe2 : L[e.on]? = some L[e.on] := by simp [hsz]
                  cases hb2 : L[e.on] with
                  | true => simp [hLe2, hb2]
                  | false => exact absurd (ihn e.on hlt2 (by omega) (by rw [hLe2, hb2])) (fun h => h)
                rw [hr] at hrn
                cases hrn
            exact hmin i hi (by rw [hL, hb])
        rw [hr] at this
        cases this
  · rintro L a1 w1 i ⟨hs, hx, g, rfl, hΦ⟩ hi
    obtain ⟨h0, o, ho, hdeps⟩ := mem_ready.1 hi
    obtain ⟨hd, hD, hlt⟩ := hO i o ho
    have hil : i < ops.size := (Array.getElem?_eq_some_iff.1 ho).1
    unfold wpOp
    simp only [ho]
    have hob := hstep i o g w1 ho hx (fun e he hb => hΦ e.on (by
      have := hdeps e he hb
      have hlt2 := hlt e he hb
      have hsz : e.on < L.size := by omega
      simp [hsz] at this ⊢
      exact this))
    have key : ∀ a2 w2, (∃ v, a2 = (mkAct base D g).put o.dst v ∧ Ext [] w1 w2 ∧ Φ i v w2) → InvR ops base D Φ w (L.setIfInBounds i true) a2 w2 := by
      rintro a2 w2 ⟨v, rfl, hx2, hv⟩
      rw [hd, mkAct_put _ _ _ _ _ hD]
      refine ⟨by simp [hs], hx.then0 hx2, _, rfl, fun j hj => ?_⟩
      by_cases hij : j = i
      · subst hij
        simpa [updG] using hv
      · have hjl : j < ops.size := by
          have := (Array.getElem?_eq_some_iff.1 hj).1
          simpa [hs] using this
        have hjL : L[j]? = some true := by
          rw [Array.getElem?_setIfInBounds] at hj
          split at hj
          · omega
          · exact hj
        have := hst j _ _ _ (hΦ j hjL) hx2
        unfold updG
        rw [if_neg (hI j i hjl hil hij)]
        exact this
    rcases hob with ⟨hw, hob⟩ | ⟨hw, hob⟩
    · rw [if_pos hw]
      exact .inl (Oper.wp_mono (fun a2 w2 h => key a2 w2 h) hob)
    · rw [if_neg (by rw [hw]; decide)]
      exact key _ _ hob
  · intro i hi
    rw [Array.getElem?_replicate] at hi
    split at hi <;> cases hi

/-- The frame itself as the base. -/
theorem wp_region_invg' {id : Nat} {base : Array Value} {w : World} (D : List Nat) (hm : P.follows .mixedOrders = true) (hok : okOpsG ops D = true)
    (Φ : Nat → Value → World → Prop) (hst : ∀ (i : Nat) (v : Value) (w w' : World), Φ i v w → Ext [] w w' → Φ i v w')
    (hstep : ∀ (i : Nat) (o : Oper) (g : Nat → Value) (w' : World), ops[i]? = some o → Ext [] w w' → (∀ e ∈ o.after, Region.binds .any e = true → Φ e.on (g (slotOf ops e.on)) w') →
      OpOb P ops Q o (mkAct base D g) w' (fun a' w'' => ∃ v, a' = (mkAct base D g).put o.dst v ∧ Ext [] w' w'' ∧ Φ i v w''))
    (hdone : ∀ (g : Nat → Value) (w' : World), Ext [] w w' → (∀ i, i < ops.size → Φ i (g (slotOf ops i)) w') → Q .normal (mkAct base D g) w') :
    (Code.region id ops true).wp P Q ⟨base, []⟩ w :=
  wp_region_invg hm base D _ (mkAct_self base D) hok Φ hst hstep hdone
/-- The steps one by one. -/
def StepsG (P : Program) (ops : Array Oper) (Q : Exit → Act → World → Prop) (base : Array Value) (D : List Nat) (Φ : Nat → Value → World → Prop) (w : World) : Nat → List Oper → Prop
  | _, [] => True
  | k, o :: l => (∀ (g : Nat → Value) (w' : World), Ext [] w w' → (∀ e ∈ o.after, Region.binds .any e = true → Φ e.on (g (slotOf ops e.on)) w') →
      OpOb P ops Q o (mkAct base D g) w' (fun a' w'' => ∃ v, a' = (mkAct base D g).put o.dst v ∧ Ext [] w' w'' ∧ Φ k v w'')) ∧ StepsG P ops Q base D Φ w (k + 1) l
theorem StepsG.get {base : Array Value} {D : List Nat} {Φ : Nat → Value → World → Prop} {w : World} : ∀ (l : List Oper) (k i : Nat) (o : Oper), StepsG P ops Q base D Φ w k l → l[i]? = some o →
    ∀ (g : Nat → Value) (w' : World), Ext [] w w' → (∀ e ∈ o.after, Region.binds .any e = true → Φ e.on (g (slotOf ops e.on)) w') →
      OpOb P ops Q o (mkAct base D g) w' (fun a' w'' => ∃ v, a' = (mkAct base D g).put o.dst v ∧ Ext [] w' w'' ∧ Φ (k + i) v w'')
  | [], _, _, _, _, h => by simp at h
  | x :: l, k, 0, o, hs, h => by simp at h; subst h; exact hs.1
  | x :: l, k, i + 1, o, hs, h => by
    have := StepsG.get l (k + 1) i o hs.2 (by simpa using h)
    rwa [Nat.add_right_comm, Nat.add_assoc] at this
theorem wp_region_stepsg {id : Nat} {base : Array Value} {w : World} (D : List Nat) (Φ : Nat → Value → World → Prop) (hm : P.follows .mixedOrders = true) (hok : okOpsG ops D = true)
    (hst : ∀ (i : Nat) (v : Value) (w w' : World), Φ i v w → Ext [] w w' → Φ i v w')
    (hstep : StepsG P ops Q base D Φ w 0 ops.toList)
    (hdone : ∀ (g : Nat → Value) (w' : World), Ext [] w w' → (∀ i, i < ops.size → Φ i (g (slotOf ops i)) w') → Q .normal (mkAct base D g) w') :
    (Code.region id ops true).wp P Q ⟨base, []⟩ w :=
  wp_region_invg' D hm hok Φ hst (fun i o g w' ho hx hd => by
    have := StepsG.get ops.toList 0 i o hstep (by simpa using ho) g w' hx hd
    rwa [Nat.zero_add] at this) hdone
/-- A step, what follows behind a letter. -/
theorem float_k {o : Oper} {A : Act} {w : World} {Cn : Value → World → Prop} (h : ∀ K : Act → World → Prop, (∀ v w'', Ext [] w w'' → Cn v w'' → K (A.put o.dst v) w'') → o.wp P A w K Q) :
    o.wp P A w (fun a' w'' => ∃ v, a' = A.put o.dst v ∧ Ext [] w w'' ∧ Cn v w'') Q :=
  h _ (fun v w'' h1 h2 => ⟨v, rfl, h1, h2⟩)
end
end Go.Proofs.Ytmjgbkepngeckaa
