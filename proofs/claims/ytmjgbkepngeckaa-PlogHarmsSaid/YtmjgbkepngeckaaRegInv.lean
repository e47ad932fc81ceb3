/- A region that draws its order, whose operations only read and make memory: by what each operation guarantees, once each, whatever the order. No function of the program is named here. -/
import Derived.Test.YtmjgbkepngeckaaHeld
import Derived.OrdersHeld
namespace Go.Proofs.Ytmjgbkepngeckaa
open Go.RowKit
set_option linter.unusedVariables false

section
variable {P : Program} {ops : Array Oper} {Q : Exit → Act → World → Prop}
theorem count_set (l : List Bool) (i : Nat) (h : l[i]? = some false) : (l.set i true).count false + 1 = l.count false := by
  induction l generalizing i with
  | nil => simp at h
  | cons b l ih =>
    cases i with
    | zero => simp at h; subst h; simp
    | succ i =>
      rw [List.set_cons_succ, List.count_cons, List.count_cons, ← ih i (by simpa using h)]
      omega
theorem wpAny_inv {Inv : Array Bool → Act → World → Prop} (hdone : ∀ L a w, Inv L a w → Region.ready .any ops L = [] → Q .normal a w)
    (hstep : ∀ L a w i, Inv L a w → i ∈ Region.ready .any ops L → wpOp P ops Q i (fun a' w' => Inv (L.setIfInBounds i true) a' w') a w) :
    ∀ fuel L a w, L.toList.count false ≤ fuel → Inv L a w → wpAny P .any ops Q fuel L a w
  | 0, L, a, w, hc, hI => by
    have hr : Region.ready .any ops L = [] := by
      rw [List.eq_nil_iff_forall_not_mem]
      intro i hi
      have h0 := (mem_ready.1 hi).1
      have hm : false ∈ L.toList := by
        by_cases h : i < L.size
        · simp [h] at h0; rw [← h0]; simp
        · simp [Array.getElem?_eq_none (Nat.le_of_not_lt h)] at h0
      have := List.count_pos_iff.2 hm
      omega
    exact ⟨hr, hdone L a w hI hr⟩
  | fuel + 1, L, a, w, hc, hI => by
    refine ⟨fun hr => hdone L a w hI hr, fun i hi => wpOp_mono (fun a' w' h' => wpAny_inv hdone hstep fuel _ a' w' ?_ h') (hstep L a w i hI hi)⟩
    have h0 := (mem_ready.1 hi).1
    by_cases h : i < L.size
    · have h1 : L.toList[i]? = some false := by simp [h] at h0 ⊢; exact h0
      have := count_set L.toList i h1
      rw [Array.toList_setIfInBounds]
      omega
    · simp [Array.getElem?_eq_none (Nat.le_of_not_lt h)] at h0

def slotOf (ops : Array Oper) (i : Nat) : Nat := ((ops[i]?).bind (·.dst)).getD 0
def updG (g : Nat → Value) (d : Nat) (v : Value) : Nat → Value := fun x => if x = d then v else g x
/-- The frame with these slots open. -/
def mkAct (base : Array Value) (D : List Nat) (g : Nat → Value) : Act := ⟨(base.toList.zipIdx.map fun p => if D.contains p.2 then g p.2 else p.1).toArray, []⟩
theorem mkAct_put (base : Array Value) (D : List Nat) (g : Nat → Value) (d : Nat) (v : Value) (hd : D.contains d = true) : (mkAct base D g).put (some d) v = mkAct base D (updG g d v) := by
  unfold mkAct Act.put
  simp only [Act.mk.injEq, and_true]
  apply Array.ext'
  rw [Array.toList_setIfInBounds]
  apply List.ext_getElem?
  intro j
  rw [List.getElem?_set]
  simp only [List.length_map, List.length_zipIdx, Array.length_toList, List.getElem?_map, List.getElem?_zipIdx]
  by_cases h : d = j
  · subst h
    rw [if_pos rfl]
    by_cases hb : d < base.size
    · simp only [hb, if_true]
      have : base.toList[d]? = some base.toList[d] := by simp [hb]
      rw [this]
      have hd' : d ∈ D := by simpa using hd
      simp [updG, hd']
    · simp [hb]
  · rw [if_neg h]
    cases base.toList[j]? with
    | none => rfl
    | some x =>
      have hj : j ≠ d := fun e => h e.symm
      simp only [Option.map_some, updG, Nat.zero_add, if_neg hj]
/-- The checks of a region's text. -/
def okOps (ops : Array Oper) (D : List Nat) : Bool :=
  (List.range ops.size).all (fun i => (ops[i]?).all fun o => o.guard.isNone && o.dst.isSome && D.contains (slotOf ops i) && o.after.all fun e => !Region.binds .any e || decide (e.on < i)) &&
  (List.range ops.size).all (fun i => (List.range ops.size).all fun j => decide (i = j) || decide (slotOf ops i ≠ slotOf ops j))
def InvR (ops : Array Oper) (base : Array Value) (D : List Nat) (Φ : Nat → Value → World → Prop) (w0 : World) (L : Array Bool) (a : Act) (w : World) : Prop :=
  L.size = ops.size ∧ Ext [] w0 w ∧ ∃ g, a = mkAct base D g ∧ ∀ i, L[i]? = some true → Φ i (g (slotOf ops i)) w

theorem wp_region_inv {id : Nat} {a : Act} {w : World} (hm : P.follows .mixedOrders = true) (base : Array Value) (D : List Nat) (g0 : Nat → Value) (ha : a = mkAct base D g0) (hok : okOps ops D = true)
    (Φ : Nat → Value → World → Prop) (hst : ∀ (i : Nat) (v : Value) (w w' : World), Φ i v w → Ext [] w w' → Φ i v w')
    (hstep : ∀ (i : Nat) (o : Oper) (g : Nat → Value) (w' : World), ops[i]? = some o → Ext [] w w' → (∀ e ∈ o.after, Region.binds .any e = true → Φ e.on (g (slotOf ops e.on)) w') →
      o.wp P (mkAct base D g) w' (fun a' w'' => ∃ v, a' = (mkAct base D g).put o.dst v ∧ Ext [] w' w'' ∧ Φ i v w'') Q)
    (hdone : ∀ (g : Nat → Value) (w' : World), Ext [] w w' → (∀ i, i < ops.size → Φ i (g (slotOf ops i)) w') → Q .normal (mkAct base D g) w') :
    (Code.region id ops true).wp P Q a w := by
  unfold okOps at hok
  rw [Bool.and_eq_true, List.all_eq_true, List.all_eq_true] at hok
  have hO : ∀ i o, ops[i]? = some o → o.guard = none ∧ o.dst = some (slotOf ops i) ∧ D.contains (slotOf ops i) = true ∧ ∀ e ∈ o.after, Region.binds .any e = true → e.on < i := by
    intro i o ho
    have hlt : i < ops.size := (Array.getElem?_eq_some_iff.1 ho).1
    have h := hok.1 i (by simpa using hlt)
    rw [ho] at h
    simp only [Option.all_some, Bool.and_eq_true, Option.isNone_iff_eq_none] at h
    refine ⟨h.1.1.1, ?_, h.1.2, fun e he hb => ?_⟩
    · obtain ⟨d, hd⟩ := Option.isSome_iff_exists.1 h.1.1.2
      unfold slotOf; rw [ho]; simp [hd]
    · have := Array.all_eq_true_iff_forall_mem.1 h.2 e he
      simp only [hb, Bool.not_true, Bool.false_or, decide_eq_true_eq] at this
      exact this
  have hI : ∀ i j, i < ops.size → j < ops.size → i ≠ j → slotOf ops i ≠ slotOf ops j := by
    intro i j hi hj hne
    have h := hok.2 i (by simpa using hi)
    rw [List.all_eq_true] at h
    have h2 := h j (by simpa using hj)
    simp only [Bool.or_eq_true, decide_eq_true_eq] at h2
    exact h2.resolve_left hne
  refine wp_region_any hm (wpAny_inv (Inv := InvR ops base D Φ w) ?_ ?_ ops.size _ _ _ (by simp) ⟨by simp, (Ext.refl _ w).drew, g0, ha, ?_⟩)
  · rintro L a1 w1 ⟨hs, hx, g, rfl, hΦ⟩ hr
    refine hdone g w1 hx (fun i => ?_)
    induction i using Nat.strongRecOn with
    | ind i ih =>
      intro hi
      refine hΦ i ?_
      have hL : L[i]? = some L[i] := by simp [hs, hi]
      rw [hL]
      cases hb : L[i] with
      | true => rfl
      | false =>
        exfalso
        have : i ∈ Region.ready .any ops L := by
          rw [mem_ready]
          refine ⟨by simp [hL, hb], ops[i], by simp [hi], fun e he hbd => ?_⟩
          have hlt := (hO i ops[i] (by simp [hi])).2.2.2 e he hbd
          -- an edge leads to what has come up, else that one were ready ahead
          by_cases hLe : L[e.on]? = some true
          · simp [hLe]
          · exfalso
            have hmin : ∀ n, n < ops.size → L[n]? = some false → False := by
              intro n
              induction n using Nat.strongRecOn with
              | ind n ihn =>
                intro hn hLn
                have hrn : n ∈ Region.ready .any ops L := by
                  rw [mem_ready]
                  refine ⟨by simp [hLn], ops[n], by simp [hn], fun e he hbd => ?_⟩
                  have hlt2 := (hO n ops[n] (by simp [hn])).2.2.2 e he hbd
                  have hsz : e.on < L.size := by omega
                  have hLe2 : L[e.on]? = some L[e.on] := by simp [hsz]
                  cases hb2 : L[e.on] with
                  | true => simp [hLe2, hb2]
                  | false => exact absurd (ihn e.on hlt2 (by omega) (by rw [hLe2, hb2])) (fun h => h)
                rw [hr] at hrn
                cases hrn
            exact hmin i hi (by rw [hL, hb])
        rw [hr] at this
        cases this
  · rintro L a1 w1 i ⟨hs, hx, g, rfl, hΦ⟩ hi
    obtain ⟨h0, o, ho, hdeps⟩ := mem_ready.1 hi
    obtain ⟨hg, hd, hD, hlt⟩ := hO i o ho
    have hil : i < ops.size := (Array.getElem?_eq_some_iff.1 ho).1
    unfold wpOp
    simp only [ho]
    have hw : Region.wanted o (yielded ops (mkAct base D g).tmps) = true := by simp [Region.wanted, hg]
    rw [if_pos hw]
    refine .inl (Oper.wp_mono ?_ (hstep i o g w1 ho hx (fun e he hb => hΦ e.on ?_)))
    · rintro a2 w2 ⟨v, rfl, hx2, hv⟩
      rw [hd, mkAct_put _ _ _ _ _ hD]
      refine ⟨by simp [hs], hx.then0 hx2, _, rfl, fun j hj => ?_⟩
      by_cases hij : j = i
      · subst hij
        simpa [updG] using hv
      · have hjl : j < ops.size := by
          have := (Array.getElem?_eq_some_iff.1 hj).1
          simpa [hs] using this
        have hjL : L[j]? = some true := by
          rw [Array.getElem?_setIfInBounds] at hj
          split at hj
          · omega
          · exact hj
        have := hst j _ _ _ (hΦ j hjL) hx2
        unfold updG
        rw [if_neg (hI j i hjl hil hij)]
        exact this
    · have := hdeps e he hb
      have hlt2 := hlt e he hb
      have hsz : e.on < L.size := by omega
      simp [hsz] at this ⊢
      exact this
  · intro i hi
    rw [Array.getElem?_replicate] at hi
    split at hi <;> cases hi

theorem mkAct_self (base : Array Value) (D : List Nat) : (⟨base, []⟩ : Act) = mkAct base D (fun t => base.getD t undef) := by
  unfold mkAct
  simp only [Act.mk.injEq, and_true]
  apply Array.ext'
  apply List.ext_getElem?
  intro j
  simp only [List.getElem?_map, List.getElem?_zipIdx]
  by_cases hb : j < base.size
  · have h1 : base.toList[j]? = some base[j] := by simp [hb]
    rw [h1]
    simp [hb]
  · have h1 : base.toList[j]? = none := by simp; omega
    rw [h1]; rfl
theorem mkAct_in (base : Array Value) (D : List Nat) (g : Nat → Value) (t : Nat) (ht : D.contains t = true) (hb : decide (t < base.size) = true) : (mkAct base D g).eval (.tmp t) = g t := by
  have hb' : t < base.size := by simpa using hb
  have ht' : t ∈ D := by simpa using ht
  simp [mkAct, Act.eval, hb', ht']
theorem mkAct_out (base : Array Value) (D : List Nat) (g : Nat → Value) (t : Nat) (ht : D.contains t = false) : (mkAct base D g).eval (.tmp t) = base.getD t undef := by
  have ht' : t ∉ D := by simpa using ht
  by_cases hb : t < base.size
  · simp [mkAct, Act.eval, hb, ht']
  · simp [mkAct, Act.eval, hb]
theorem mkAct_in2 (base : Array Value) (D : List Nat) (g : Nat → Value) (t : Nat) (ht : D.contains t = true) (hb : decide (t < base.size) = true) : (mkAct base D g).tmps[t]?.getD undef = g t := by
  have := mkAct_in base D g t ht hb
  simpa [Act.eval] using this
theorem mkAct_out2 (base : Array Value) (D : List Nat) (g : Nat → Value) (t : Nat) (v : Value) (ht : D.contains t = false) (hv : base.getD t undef = v) : (mkAct base D g).tmps[t]?.getD undef = v := by
  have := mkAct_out base D g t ht
  rw [hv] at this
  simpa [Act.eval] using this
theorem mkAct_const (base : Array Value) (D : List Nat) (g : Nat → Value) (v : Value) : (mkAct base D g).eval (.const v) = v := rfl
theorem mkAct_func (base : Array Value) (D : List Nat) (g : Nat → Value) (f : Nat) : (mkAct base D g).eval (.func f) = .func (.func f) #[] #[] := rfl

/-- The frame itself as the base. -/
theorem wp_region_inv' {id : Nat} {base : Array Value} {w : World} (D : List Nat) (hm : P.follows .mixedOrders = true) (hok : okOps ops D = true)
    (Φ : Nat → Value → World → Prop) (hst : ∀ (i : Nat) (v : Value) (w w' : World), Φ i v w → Ext [] w w' → Φ i v w')
    (hstep : ∀ (i : Nat) (o : Oper) (g : Nat → Value) (w' : World), ops[i]? = some o → Ext [] w w' → (∀ e ∈ o.after, Region.binds .any e = true → Φ e.on (g (slotOf ops e.on)) w') →
      o.wp P (mkAct base D g) w' (fun a' w'' => ∃ v, a' = (mkAct base D g).put o.dst v ∧ Ext [] w' w'' ∧ Φ i v w'') Q)
    (hdone : ∀ (g : Nat → Value) (w' : World), Ext [] w w' → (∀ i, i < ops.size → Φ i (g (slotOf ops i)) w') → Q .normal (mkAct base D g) w') :
    (Code.region id ops true).wp P Q ⟨base, []⟩ w :=
  wp_region_inv hm base D _ (mkAct_self base D) hok Φ hst hstep hdone
/-- The steps one by one. -/
def StepsR (P : Program) (ops : Array Oper) (Q : Exit → Act → World → Prop) (base : Array Value) (D : List Nat) (Φ : Nat → Value → World → Prop) (w : World) : Nat → List Oper → Prop
  | _, [] => True
  | k, o :: l => (∀ (g : Nat → Value) (w' : World), Ext [] w w' → (∀ e ∈ o.after, Region.binds .any e = true → Φ e.on (g (slotOf ops e.on)) w') →
      o.wp P (mkAct base D g) w' (fun a' w'' => ∃ v, a' = (mkAct base D g).put o.dst v ∧ Ext [] w' w'' ∧ Φ k v w'') Q) ∧ StepsR P ops Q base D Φ w (k + 1) l
theorem StepsR.get {base : Array Value} {D : List Nat} {Φ : Nat → Value → World → Prop} {w : World} : ∀ (l : List Oper) (k i : Nat) (o : Oper), StepsR P ops Q base D Φ w k l → l[i]? = some o →
    ∀ (g : Nat → Value) (w' : World), Ext [] w w' → (∀ e ∈ o.after, Region.binds .any e = true → Φ e.on (g (slotOf ops e.on)) w') →
      o.wp P (mkAct base D g) w' (fun a' w'' => ∃ v, a' = (mkAct base D g).put o.dst v ∧ Ext [] w' w'' ∧ Φ (k + i) v w'') Q
  | [], _, _, _, _, h => by simp at h
  | x :: l, k, 0, o, hs, h => by simp at h; subst h; exact hs.1
  | x :: l, k, i + 1, o, hs, h => by
    have := StepsR.get l (k + 1) i o hs.2 (by simpa using h)
    rwa [Nat.add_right_comm, Nat.add_assoc] at this
theorem wp_region_steps {id : Nat} {base : Array Value} {w : World} (D : List Nat) (Φ : Nat → Value → World → Prop) (hm : P.follows .mixedOrders = true) (hok : okOps ops D = true)
    (hst : ∀ (i : Nat) (v : Value) (w w' : World), Φ i v w → Ext [] w w' → Φ i v w')
    (hstep : StepsR P ops Q base D Φ w 0 ops.toList)
    (hdone : ∀ (g : Nat → Value) (w' : World), Ext [] w w' → (∀ i, i < ops.size → Φ i (g (slotOf ops i)) w') → Q .normal (mkAct base D g) w') :
    (Code.region id ops true).wp P Q ⟨base, []⟩ w :=
  wp_region_inv' D hm hok Φ hst (fun i o g w' ho hx hd => by
    have := StepsR.get ops.toList 0 i o hstep (by simpa using ho) g w' hx hd
    rwa [Nat.zero_add] at this) hdone
/-- An operation that yields a value. -/
theorem step_val {o : Oper} {a : Act} {w w' : World} {K : Act → World → Prop} {v : Value} (h : (execOp a.eval o).run P w = .ok (.value v) w') (hK : K (a.put o.dst v) w') : o.wp P a w K Q := by
  unfold Oper.wp; rw [h]; exact hK
theorem step_call {o : Oper} {a : Act} {w w' : World} {K : Act → World → Prop} {f : FuncId} {args : Array Value} (h : (execOp a.eval o).run P w = .ok (.enter f args) w')
    (hc : Calls P f args w' (fun e w'' => ∃ v, e = .returned v ∧ K (a.put o.dst v) w'')) : o.wp P a w K Q := by
  unfold Oper.wp; rw [h, Oper.upon_enter]
  refine hc.mono ?_
  rintro e w'' ⟨v, rfl, hk⟩
  exact hk

/-! A chain of operations that own memory and write it, among operations that float: loads, pure ones, blocks made for arguments. -/
def okChain (ops : Array Oper) (cs : List Nat) : Bool :=
  (List.range cs.length).all fun j => decide (cs.getD j 0 < ops.size) && (decide (j = 0) || ((ops[cs.getD j 0]?).all fun o => o.after.any fun e => Region.binds .any e && decide (e.on = cs.getD (j - 1) 0))) &&
    (List.range cs.length).all fun k => decide (j = k) || decide (cs.getD j 0 ≠ cs.getD k 0)
def DepsR (ops : Array Oper) (cs : List Nat) (Φ : Nat → Value → World → Prop) (o : Oper) (g : Nat → Value) (w : World) : Prop :=
  ∀ e ∈ o.after, Region.binds .any e = true → cs.contains e.on = false → Φ e.on (g (slotOf ops e.on)) w
def FloatOb (P : Program) (ops : Array Oper) (Q : Exit → Act → World → Prop) (base : Array Value) (D cs : List Nat) (Φ : Nat → Value → World → Prop) (w : World) (k : Nat) (o : Oper) : Prop :=
  ∀ (g : Nat → Value) (w' : World), Ext [] w w' → DepsR ops cs Φ o g w' → o.wp P (mkAct base D g) w' (fun a' w'' => ∃ v, a' = (mkAct base D g).put o.dst v ∧ Ext [] w' w'' ∧ Φ k v w'' ∧ ∀ x ∈ vblocks v, (x < w.heap.size ∨ w'.heap.size ≤ x) ∧ x < w''.heap.size) Q
def ChainOb (P : Program) (ops : Array Oper) (Q : Exit → Act → World → Prop) (base : Array Value) (D cs : List Nat) (Φ : Nat → Value → World → Prop) (C : Nat → (Nat → Value) → List Nat → World → Prop) (w : World) (k : Nat) (o : Oper) : Prop :=
  ∀ (s : Nat) (g : Nat → Value) (O : List Nat) (w' : World), cs[s]? = some k → Ext [] w w' → DepsR ops cs Φ o g w' → (∀ e ∈ o.after, Region.binds .any e = true → cs.contains e.on = false → ∀ x ∈ vblocks (g (slotOf ops e.on)), x ∉ O) → C s g O w' → (∀ x ∈ O, w.heap.size ≤ x ∧ x < w'.heap.size) →
    o.wp P (mkAct base D g) w' (fun a' w'' => ∃ v O', a' = (mkAct base D g).put o.dst v ∧ Ext O w' w'' ∧ C (s + 1) (updG g (slotOf ops k) v) O' w'' ∧ ∀ x ∈ O', (x ∈ O ∨ w'.heap.size ≤ x) ∧ x < w''.heap.size) Q
def StepsP (P : Program) (ops : Array Oper) (Q : Exit → Act → World → Prop) (base : Array Value) (D cs : List Nat) (Φ : Nat → Value → World → Prop) (C : Nat → (Nat → Value) → List Nat → World → Prop) (w : World) : Nat → List Oper → Prop
  | _, [] => True
  | k, o :: l => ((cs.contains k = false → FloatOb P ops Q base D cs Φ w k o) ∧ (cs.contains k = true → ChainOb P ops Q base D cs Φ C w k o)) ∧ StepsP P ops Q base D cs Φ C w (k + 1) l
theorem StepsP.get {base : Array Value} {D cs : List Nat} {Φ : Nat → Value → World → Prop} {C : Nat → (Nat → Value) → List Nat → World → Prop} {w : World} : ∀ (l : List Oper) (k i : Nat) (o : Oper), StepsP P ops Q base D cs Φ C w k l → l[i]? = some o →
    (cs.contains (k + i) = false → FloatOb P ops Q base D cs Φ w (k + i) o) ∧ (cs.contains (k + i) = true → ChainOb P ops Q base D cs Φ C w (k + i) o)
  | [], _, _, _, _, h => by simp at h
  | x :: l, k, 0, o, hs, h => by simp at h; subst h; exact hs.1
  | x :: l, k, i + 1, o, hs, h => by
    have := StepsP.get l (k + 1) i o hs.2 (by simpa using h)
    rwa [Nat.add_right_comm, Nat.add_assoc] at this
def InvP (ops : Array Oper) (base : Array Value) (D cs : List Nat) (Φ : Nat → Value → World → Prop) (C : Nat → (Nat → Value) → List Nat → World → Prop) (w0 : World) (L : Array Bool) (a : Act) (w : World) : Prop :=
  L.size = ops.size ∧ Ext [] w0 w ∧ ∃ g s O, a = mkAct base D g ∧ s ≤ cs.length ∧ (∀ j i, cs[j]? = some i → (L[i]? = some true ↔ j < s)) ∧ C s g O w ∧ (∀ x ∈ O, w0.heap.size ≤ x ∧ x < w.heap.size) ∧
    ∀ i, cs.contains i = false → L[i]? = some true → Φ i (g (slotOf ops i)) w ∧ ∀ x ∈ vblocks (g (slotOf ops i)), x ∉ O ∧ x < w.heap.size

theorem wp_region_plan {id : Nat} {base : Array Value} {w : World} (D cs : List Nat) (Φ : Nat → Value → World → Prop) (C : Nat → (Nat → Value) → List Nat → World → Prop) (hm : P.follows .mixedOrders = true) (hok : okOps ops D = true) (hcs : okChain ops cs = true)
    (hΦ : ∀ (i : Nat) (v : Value) (F : List Nat) (w w' : World), Φ i v w → Ext F w w' → (∀ x ∈ vblocks v, x ∉ F) → Φ i v w')
    (hC : ∀ (s : Nat) (g : Nat → Value) (O : List Nat) (w w' : World), C s g O w → Ext [] w w' → C s g O w')
    (hCg : ∀ (s : Nat) (g g' : Nat → Value) (O : List Nat) (w : World), C s g O w → (∀ i, cs.contains i = true → g (slotOf ops i) = g' (slotOf ops i)) → C s g' O w)
    (h0 : ∀ g w', Ext [] w w' → C 0 g [] w')
    (hstep : StepsP P ops Q base D cs Φ C w 0 ops.toList)
    (hdone : ∀ (g : Nat → Value) (O : List Nat) (w' : World), Ext [] w w' → C cs.length g O w' → (∀ i, i < ops.size → cs.contains i = false → Φ i (g (slotOf ops i)) w') → Q .normal (mkAct base D g) w') :
    (Code.region id ops true).wp P Q ⟨base, []⟩ w := by
  unfold okOps at hok
  rw [Bool.and_eq_true, List.all_eq_true, List.all_eq_true] at hok
  have hO : ∀ i o, ops[i]? = some o → o.guard = none ∧ o.dst = some (slotOf ops i) ∧ D.contains (slotOf ops i) = true ∧ ∀ e ∈ o.after, Region.binds .any e = true → e.on < i := by
    intro i o ho
    have hlt : i < ops.size := (Array.getElem?_eq_some_iff.1 ho).1
    have h := hok.1 i (by simpa using hlt)
    rw [ho] at h
    simp only [Option.all_some, Bool.and_eq_true, Option.isNone_iff_eq_none] at h
    refine ⟨h.1.1.1, ?_, h.1.2, fun e he hb => ?_⟩
    · obtain ⟨d, hd⟩ := Option.isSome_iff_exists.1 h.1.1.2
      unfold slotOf; rw [ho]; simp [hd]
    · have := Array.all_eq_true_iff_forall_mem.1 h.2 e he
      simp only [hb, Bool.not_true, Bool.false_or, decide_eq_true_eq] at this
      exact this
  have hI : ∀ i j, i < ops.size → j < ops.size → i ≠ j → slotOf ops i ≠ slotOf ops j := by
    intro i j hi hj hne
    have h := hok.2 i (by simpa using hi)
    rw [List.all_eq_true] at h
    have h2 := h j (by simpa using hj)
    simp only [Bool.or_eq_true, decide_eq_true_eq] at h2
    exact h2.resolve_left hne
  unfold okChain at hcs
  rw [List.all_eq_true] at hcs
  have hCh : ∀ j i : Nat, cs[j]? = some i → i < ops.size ∧ (j = 0 ∨ ∃ o, ops[i]? = some o ∧ ∃ e ∈ o.after, Region.binds .any e = true ∧ cs[j - 1]? = some e.on) ∧ ∀ k i', cs[k]? = some i' → j ≠ k → i ≠ i' := by
    intro j i hj
    have hjl : j < cs.length := (List.getElem?_eq_some_iff.1 hj).1
    have h := hcs j (by simpa using hjl)
    have hg : cs.getD j 0 = i := by simp [List.getD, hj]
    rw [hg] at h
    simp only [Bool.and_eq_true, decide_eq_true_eq, Bool.or_eq_true, List.all_eq_true] at h
    obtain ⟨⟨h1, h2⟩, h3⟩ := h
    refine ⟨h1, ?_, fun k i' hk hne => ?_⟩
    · rcases h2 with h2 | h2
      · exact .inl h2
      · right
        have ho : ops[i]? = some ops[i] := by simp [h1]
        rw [ho] at h2
        simp only [Option.all_some] at h2
        rw [Array.any_eq_true] at h2
        obtain ⟨n, hn, hb⟩ := h2
        have he := Array.getElem_mem hn
        obtain ⟨e, hee⟩ : ∃ e, e = (ops[i]).after[n] := ⟨_, rfl⟩
        rw [← hee] at hb he
        simp only [Bool.and_eq_true, decide_eq_true_eq] at hb
        have hjl2 : j - 1 < cs.length := by omega
        exact ⟨_, ho, e, he, hb.1, by rw [hb.2]; simp [List.getD, hjl2]⟩
    · have hkl : k < cs.length := (List.getElem?_eq_some_iff.1 hk).1
      have := h3 k (by simpa using hkl)
      rcases this with h4 | h4
      · exact absurd h4 hne
      · simpa [List.getD, hk] using h4
  have hmem : ∀ i : Nat, cs.contains i = true ↔ ∃ j : Nat, cs[j]? = some i := by
    intro i
    rw [List.contains_iff_mem, List.mem_iff_getElem?]
  refine wp_region_any hm (wpAny_inv (Inv := InvP ops base D cs Φ C w) ?_ ?_ ops.size _ _ _ (by simp) ⟨by simp, (Ext.refl _ w).drew, _, 0, [], mkAct_self base D, Nat.zero_le _, ?_, h0 _ _ ((Ext.refl _ w).drew), by simp, ?_⟩)
  · rintro L a1 w1 ⟨hs, hx, g, s, O, rfl, hsl, hsc, hCs, hOO, hΦs⟩ hr
    have hall : ∀ n, n < ops.size → L[n]? = some true := by
      intro n
      induction n using Nat.strongRecOn with
      | ind n ihn =>
        intro hn
        have hL : L[n]? = some L[n] := by simp [hs, hn]
        rw [hL]
        cases hb : L[n] with
        | true => rfl
        | false =>
          exfalso
          have hrn : n ∈ Region.ready .any ops L := by
            rw [mem_ready]
            refine ⟨by simp [hL, hb], ops[n], by simp [hn], fun e he hbd => ?_⟩
            have hlt2 := (hO n ops[n] (by simp [hn])).2.2.2 e he hbd
            have := ihn e.on hlt2 (by omega)
            simp [this]
          rw [hr] at hrn
          cases hrn
    have hsl2 : s = cs.length := by
      rcases Nat.lt_or_ge s cs.length with h | h
      · exfalso
        have h1 : cs[s]? = some cs[s] := by simp [h]
        have := (hsc s _ h1).1 (hall _ (hCh s _ h1).1)
        omega
      · omega
    subst hsl2
    exact hdone g O w1 hx hCs (fun i hi hc => (hΦs i hc (hall i hi)).1)
  · rintro L a1 w1 i ⟨hs, hx, g, s, O, rfl, hsl, hsc, hCs, hOO, hΦs⟩ hi
    obtain ⟨h0', o, ho, hdeps⟩ := mem_ready.1 hi
    obtain ⟨hg, hd, hD, hlt⟩ := hO i o ho
    have hil : i < ops.size := (Array.getElem?_eq_some_iff.1 ho).1
    have hLi : L[i]? = some false := by
      have : i < L.size := by omega
      simp [this] at h0' ⊢; exact h0'
    unfold wpOp
    simp only [ho]
    have hw : Region.wanted o (yielded ops (mkAct base D g).tmps) = true := by simp [Region.wanted, hg]
    rw [if_pos hw]
    have hdp : DepsR ops cs Φ o g w1 := by
      intro e he hb hc
      have hlt2 := hlt e he hb
      have hsz : e.on < L.size := by omega
      have := hdeps e he hb
      exact (hΦs e.on hc (by simp [hsz] at this ⊢; exact this)).1
    have hsp : ∀ e ∈ o.after, Region.binds .any e = true → cs.contains e.on = false → ∀ x ∈ vblocks (g (slotOf ops e.on)), x ∉ O := by
      intro e he hb hc x hx'
      have hlt2 := hlt e he hb
      have hsz : e.on < L.size := by omega
      have := hdeps e he hb
      exact ((hΦs e.on hc (by simp [hsz] at this ⊢; exact this)).2 x hx').1
    have hob := StepsP.get ops.toList 0 i o hstep (by simpa using ho)
    rw [Nat.zero_add] at hob
    have hset : ∀ j, j ≠ i → (L.setIfInBounds i true)[j]? = L[j]? := fun j hj => by rw [Array.getElem?_setIfInBounds]; simp [Ne.symm hj]
    have hseti : (L.setIfInBounds i true)[i]? = some true := by
      have : i < L.size := by omega
      simp [this]
    by_cases hc : cs.contains i = true
    · obtain ⟨j, hj⟩ := (hmem i).1 hc
      have hjs : j = s := by
        have h1 : ¬ j < s := fun h => by rw [(hsc j i hj).2 h] at hLi; cases hLi
        rcases (hCh j i hj).2.1 with h2 | ⟨o', ho', e, he, hb, hj1⟩
        · omega
        · rw [ho] at ho'; cases ho'
          have hlt2 := hlt e he hb
          have hsz : e.on < L.size := by omega
          have := hdeps e he hb
          have h3 := (hsc (j - 1) e.on hj1).1 (by simp [hsz] at this ⊢; exact this)
          omega
      subst hjs
      refine .inl (Oper.wp_mono ?_ (hob.2 hc j g O w1 hj hx hdp hsp hCs hOO))
      rintro a2 w2 ⟨v, O', rfl, hx2, hC2, hO2⟩
      rw [hd, mkAct_put _ _ _ _ _ hD]
      have hjl : j < cs.length := (List.getElem?_eq_some_iff.1 hj).1
      refine ⟨by simp [hs], hx.trans hx2 (fun x hx' => .inr (hOO x hx').1), _, j + 1, O', rfl, hjl, fun k i' hk => ?_, hC2, fun x hx' => ⟨?_, (hO2 x hx').2⟩, fun i' hc' hL' => ?_⟩
      · by_cases hik : i' = i
        · subst hik
          have : k = j := by
            by_cases h : j = k
            · exact h.symm
            · exact absurd rfl ((hCh j i' hj).2.2 k i' hk h)
          subst this
          exact ⟨fun _ => by omega, fun _ => hseti⟩
        · rw [hset i' hik, hsc k i' hk]
          have : k ≠ j := fun h => by subst h; rw [hj] at hk; cases hk; exact hik rfl
          omega
      · rcases (hO2 x hx').1 with h | h
        · exact (hOO x h).1
        · have := hx.size; omega
      · have hne : i' ≠ i := fun h => by subst h; rw [hc] at hc'; cases hc'
        rw [hset i' hne] at hL'
        have hi'l : i' < ops.size := by
          have := (Array.getElem?_eq_some_iff.1 hL').1
          omega
        obtain ⟨h1, h2⟩ := hΦs i' hc' hL'
        unfold updG
        rw [if_neg (hI i' i hi'l hil hne)]
        refine ⟨hΦ _ _ O _ _ h1 hx2 (fun x hx' => (h2 x hx').1), fun x hx' => ⟨fun hxO => ?_, Nat.lt_of_lt_of_le (h2 x hx').2 hx2.size⟩⟩
        rcases (hO2 x hxO).1 with h | h
        · exact (h2 x hx').1 h
        · have := (h2 x hx').2; omega
    · have hc' : cs.contains i = false := by simpa using hc
      refine .inl (Oper.wp_mono ?_ (hob.1 hc' g w1 hx hdp))
      rintro a2 w2 ⟨v, rfl, hx2, hv, hvb⟩
      rw [hd, mkAct_put _ _ _ _ _ hD]
      refine ⟨by simp [hs], hx.then0 hx2, _, s, O, rfl, hsl, fun k i' hk => ?_, ?_, fun x hx' => ⟨(hOO x hx').1, Nat.lt_of_lt_of_le (hOO x hx').2 hx2.size⟩, fun i' hci hL' => ?_⟩
      · have hik : i' ≠ i := fun h => by subst h; rw [(hmem i').2 ⟨k, hk⟩] at hc'; cases hc'
        rw [hset i' hik]; exact hsc k i' hk
      · refine hCg s g _ O w2 (hC _ _ _ _ _ hCs hx2) (fun i' hci => ?_)
        have hik : i' ≠ i := fun h => by subst h; rw [hci] at hc'; cases hc'
        obtain ⟨k, hk⟩ := (hmem i').1 hci
        unfold updG
        rw [if_neg (hI i' i (hCh k i' hk).1 hil hik)]
      · by_cases hik : i' = i
        · subst hik
          unfold updG
          rw [if_pos rfl]
          refine ⟨hv, fun x hx' => ⟨fun hxO => ?_, (hvb x hx').2⟩⟩
          have h1 := hOO x hxO
          rcases (hvb x hx').1 with h | h <;> omega
        · rw [hset i' hik] at hL'
          have hi'l : i' < ops.size := by
            have := (Array.getElem?_eq_some_iff.1 hL').1
            omega
          obtain ⟨h1, h2⟩ := hΦs i' hci hL'
          unfold updG
          rw [if_neg (hI i' i hi'l hil hik)]
          exact ⟨hΦ _ _ [] _ _ h1 hx2 (by simp), fun x hx' => ⟨(h2 x hx').1, Nat.lt_of_lt_of_le (h2 x hx').2 hx2.size⟩⟩
  · intro j i hj
    rw [Array.getElem?_replicate]
    split <;> simp
  · intro i _ hi
    rw [Array.getElem?_replicate] at hi
    split at hi <;> cases hi
/-- A chain's step, what follows behind a letter. -/
theorem chain_k {o : Oper} {A : Act} {w : World} {O : List Nat} {Cn : Value → List Nat → World → Prop} (h : ∀ K : Act → World → Prop, (∀ v O' w'', Ext O w w'' → Cn v O' w'' → (∀ x ∈ O', (x ∈ O ∨ w.heap.size ≤ x) ∧ x < w''.heap.size) → K (A.put o.dst v) w'') → o.wp P A w K Q) :
    o.wp P A w (fun a' w'' => ∃ v O', a' = A.put o.dst v ∧ Ext O w w'' ∧ Cn v O' w'' ∧ ∀ x ∈ O', (x ∈ O ∨ w.heap.size ≤ x) ∧ x < w''.heap.size) Q :=
  h _ (fun v O' w'' h1 h2 h3 => ⟨v, O', rfl, h1, h2, h3⟩)
end
end Go.Proofs.Ytmjgbkepngeckaa
