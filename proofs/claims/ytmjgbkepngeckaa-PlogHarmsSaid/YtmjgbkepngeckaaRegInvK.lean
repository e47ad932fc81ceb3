/- A region that draws its order, with guards and stores into what was made: each operation says itself that it leaves the other operations' facts. No function of the program is named here. -/
import Derived.Test.YtmjgbkepngeckaaRegInvG
namespace Go.Proofs.Ytmjgbkepngeckaa
open Go.RowKit
set_option linter.unusedVariables false
set_option linter.unusedSimpArgs false

section
variable {P : Program} {ops : Array Oper} {Q : Exit → Act → World → Prop}
def okOpsK (ops : Array Oper) (D : List Nat) : Bool :=
  (List.range ops.size).all (fun i => (ops[i]?).all fun o => (o.dst.isNone || D.contains (slotOf ops i)) && o.after.all fun e => !Region.binds .any e || decide (e.on < i)) &&
  (List.range ops.size).all (fun i => (List.range ops.size).all fun j => decide (i = j) || ((ops[i]?).bind (·.dst)).isNone || decide (slotOf ops i ≠ slotOf ops j))
def okAux (ops : Array Oper) (aux : Nat → Nat) : Bool := (List.range ops.size).all fun i => decide (aux i = i) || (ops[i]?).all fun o => o.after.any fun e => Region.binds .any e && decide (e.on = aux i)
/-- The values that an operation's fact speaks of. -/
def InvK (ops : Array Oper) (base : Array Value) (D : List Nat) (aux : Nat → Nat) (Φ : Nat → Value → Value → World → Prop) (w0 : World) (L : Array Bool) (a : Act) (w : World) : Prop :=
  L.size = ops.size ∧ Ext [] w0 w ∧ ∃ g, a = mkAct base D g ∧ ∀ i, L[i]? = some true → L[aux i]? = some true ∧ Φ i (g (slotOf ops i)) (g (slotOf ops (aux i))) w
theorem wp_region_invk {id : Nat} {a : Act} {w : World} (hm : P.follows .mixedOrders = true) (base : Array Value) (D : List Nat) (g0 : Nat → Value) (ha : a = mkAct base D g0) (hok : okOpsK ops D = true)
    (aux : Nat → Nat) (Φ : Nat → Value → Value → World → Prop) (hau : okAux ops aux = true) (hno : ∀ (i : Nat) (v v' x : Value) (w' : World), ((ops[i]?).bind (·.dst)) = none → aux i ≠ i → Φ i v x w' → Φ i v' x w') (hna : ∀ i, i < ops.size → ((ops[i]?).bind (·.dst)) = none → aux i ≠ i) (hnb : ∀ i, i < ops.size → ((ops[aux i]?).bind (·.dst)) ≠ none)
    (hstep : ∀ (i : Nat) (o : Oper) (g : Nat → Value) (w' : World), ops[i]? = some o → Ext [] w w' → (∀ e ∈ o.after, Region.binds .any e = true → Φ e.on (g (slotOf ops e.on)) (g (slotOf ops (aux e.on))) w') →
      OpOb P ops Q o (mkAct base D g) w' (fun a' w'' => ∃ v, a' = (mkAct base D g).put o.dst v ∧ Ext [] w w'' ∧ Φ i v (if aux i = i then v else g (slotOf ops (aux i))) w'' ∧ ∀ j u x, j ≠ i → Φ j u x w' → Φ j u x w''))
    (hdone : ∀ (g : Nat → Value) (w' : World), Ext [] w w' → (∀ i, i < ops.size → Φ i (g (slotOf ops i)) (g (slotOf ops (aux i))) w') → Q .normal (mkAct base D g) w') :
    (Code.region id ops true).wp P Q a w := by
  unfold okOpsK at hok
  rw [Bool.and_eq_true, List.all_eq_true, List.all_eq_true] at hok
  have hO : ∀ i o, ops[i]? = some o → (o.dst = none ∨ (o.dst = some (slotOf ops i) ∧ D.contains (slotOf ops i) = true)) ∧ ∀ e ∈ o.after, Region.binds .any e = true → e.on < i := by
    intro i o ho
    have hlt : i < ops.size := (Array.getElem?_eq_some_iff.1 ho).1
    have h := hok.1 i (by simpa using hlt)
    rw [ho] at h
    simp only [Option.all_some, Bool.and_eq_true, Bool.or_eq_true] at h
    refine ⟨?_, fun e he hb => ?_⟩
    · cases hd : o.dst with
      | none => exact .inl rfl
      | some d =>
        right
        have hs : slotOf ops i = d := by unfold slotOf; rw [ho]; simp [hd]
        rw [hs]
        rcases h.1 with h1 | h1
        · rw [hd] at h1; cases h1
        · rw [hs] at h1; exact ⟨rfl, h1⟩
    · have := Array.all_eq_true_iff_forall_mem.1 h.2 e he
      simp only [hb, Bool.not_true, Bool.false_or, decide_eq_true_eq] at this
      exact this
  have hI : ∀ i j, i < ops.size → j < ops.size → i ≠ j → ((ops[i]?).bind (·.dst)) = none ∨ slotOf ops i ≠ slotOf ops j := by
    intro i j hi hj hne
    have h := hok.2 i (by simpa using hi)
    rw [List.all_eq_true] at h
    have h2 := h j (by simpa using hj)
    simp only [Bool.or_eq_true, decide_eq_true_eq, Option.isNone_iff_eq_none] at h2
    rcases h2 with (h3 | h3) | h3
    · exact absurd h3 hne
    · exact .inl h3
    · exact .inr h3
  refine wp_region_any hm (wpAny_inv (Inv := InvK ops base D aux Φ w) ?_ ?_ ops.size _ _ _ (by simp) ⟨by simp, (Ext.refl _ w).drew, g0, ha, ?_⟩)
  · rintro L a1 w1 ⟨hs, hx, g, rfl, hΦ⟩ hr
    refine hdone g w1 hx (fun i => ?_)
    induction i using Nat.strongRecOn with
    | ind i ih =>
      intro hi
      refine (hΦ i ?_).2
      have hL : L[i]? = some L[i] := by simp [hs, hi]
      rw [hL]
      cases hb : L[i] with
      | true => rfl
      | false =>
        exfalso
        have hmin : ∀ n, n < ops.size → L[n]? = some false → False := by
          intro n
          induction n using Nat.strongRecOn with
          | ind n ihn =>
            intro hn hLn
            have hrn : n ∈ Region.ready .any ops L := by
              rw [mem_ready]
              refine ⟨by simp [hLn], ops[n], by simp [hn], fun e he hbd => ?_⟩
              have hlt2 := (hO n ops[n] (by simp [hn])).2 e he hbd
              have hsz : e.on < L.size := by omega
              have hLe2 : L[e.on]? = some L[e.on] := by simp [hsz]
              cases hb2 : L[e.on] with
              | true => simp [hLe2, hb2]
              | false => exact absurd (ihn e.on hlt2 (by omega) (by rw [hLe2, hb2])) (fun h => h)
            rw [hr] at hrn
            cases hrn
        exact hmin i hi (by rw [hL, hb])
  · rintro L a1 w1 i ⟨hs, hx, g, rfl, hΦ⟩ hi
    obtain ⟨h0, o, ho, hdeps⟩ := mem_ready.1 hi
    obtain ⟨hd, hlt⟩ := hO i o ho
    have hil : i < ops.size := (Array.getElem?_eq_some_iff.1 ho).1
    unfold wpOp
    simp only [ho]
    have hdone' : ∀ e ∈ o.after, Region.binds .any e = true → L[e.on]? = some true := fun e he hb => by
      have := hdeps e he hb
      have hlt2 := hlt e he hb
      have hsz : e.on < L.size := by omega
      simp [hsz] at this ⊢
      exact this
    have hob := hstep i o g w1 ho hx (fun e he hb => (hΦ e.on (hdone' e he hb)).2)
    have hai : aux i = i ∨ L[aux i]? = some true := by
      unfold okAux at hau
      rw [List.all_eq_true] at hau
      have h := hau i (by simpa using hil)
      rw [ho] at h
      simp only [Option.all_some, Bool.or_eq_true, decide_eq_true_eq] at h
      rcases h with h | h
      · exact .inl h
      · right
        obtain ⟨k, hk, h2⟩ := Array.any_eq_true.1 h
        rw [Bool.and_eq_true, decide_eq_true_eq] at h2
        rw [← h2.2]
        exact hdone' _ (Array.getElem_mem hk) h2.1
    have hLi : L[i]? = some false := by
      have hiL : i < L.size := by omega
      have h0' : L[i]?.getD true = false := by simpa using h0
      rw [Array.getElem?_eq_getElem hiL] at h0' ⊢
      simpa using h0'
    have key : ∀ a2 w2, (∃ v, a2 = (mkAct base D g).put o.dst v ∧ Ext [] w w2 ∧ Φ i v (if aux i = i then v else g (slotOf ops (aux i))) w2 ∧ ∀ j u x, j ≠ i → Φ j u x w1 → Φ j u x w2) → InvK ops base D aux Φ w (L.setIfInBounds i true) a2 w2 := by
      rintro a2 w2 ⟨v, rfl, hx2, hv, hkeep⟩
      have hLj : ∀ j : Nat, j ≠ i → (L.setIfInBounds i true)[j]? = some true → j < ops.size ∧ L[j]? = some true := by
        intro j hij hj
        have hjl : j < ops.size := by
          have := (Array.getElem?_eq_some_iff.1 hj).1
          simpa [hs] using this
        refine ⟨hjl, ?_⟩
        rw [Array.getElem?_setIfInBounds] at hj
        split at hj
        · omega
        · exact hj
      have hup : ∀ j : Nat, L[j]? = some true → (L.setIfInBounds i true)[j]? = some true := by
        intro j hj
        have hjl := (Array.getElem?_eq_some_iff.1 hj).1
        rw [Array.getElem?_setIfInBounds]
        split
        · simp [hjl]; omega
        · exact hj
      have hii : (L.setIfInBounds i true)[i]? = some true := by simp [hs, hil]
      have hai2 : (L.setIfInBounds i true)[aux i]? = some true := by
        rcases hai with h | h
        · rw [h]; exact hii
        · exact hup _ h
      rcases hd with hd | ⟨hd, hD⟩
      · rw [hd]
        have hnn := hna i hil (by rw [ho]; exact hd)
        refine ⟨by simp [hs], hx2, g, rfl, fun j hj => ?_⟩
        by_cases hij : j = i
        · subst hij
          rw [if_neg hnn] at hv
          exact ⟨hai2, hno j v _ _ w2 (by rw [ho]; exact hd) hnn hv⟩
        · obtain ⟨_, hjL⟩ := hLj j hij hj
          obtain ⟨h1, h2⟩ := hΦ j hjL
          exact ⟨hup _ h1, hkeep j _ _ hij h2⟩
      · rw [hd, mkAct_put _ _ _ _ _ hD]
        have hsd : ∀ j : Nat, j < ops.size → j ≠ i → ((ops[j]?).bind (·.dst)) ≠ none → updG g (slotOf ops i) v (slotOf ops j) = g (slotOf ops j) := by
          intro j hjl hij hjd
          unfold updG
          rw [if_neg ((hI j i hjl hil hij).resolve_left hjd)]
        refine ⟨by simp [hs], hx2, _, rfl, fun j hj => ?_⟩
        by_cases hij : j = i
        · subst hij
          refine ⟨hai2, ?_⟩
          have e1 : updG g (slotOf ops j) v (slotOf ops j) = v := by simp [updG]
          rw [e1]
          by_cases ha : aux j = j
          · rw [if_pos ha] at hv
            rw [ha, e1]
            exact hv
          · rw [if_neg ha] at hv
            have hal : aux j < ops.size := by
              have := (Array.getElem?_eq_some_iff.1 (hai.resolve_left ha)).1
              omega
            rw [hsd (aux j) hal ha (hnb j hil)]
            exact hv
        · obtain ⟨hjl, hjL⟩ := hLj j hij hj
          obtain ⟨h1, h2⟩ := hΦ j hjL
          refine ⟨hup _ h1, ?_⟩
          have hal : aux j < ops.size := by
            have := (Array.getElem?_eq_some_iff.1 h1).1
            omega
          have hai3 : aux j ≠ i := fun e => by rw [e, hLi] at h1; cases h1
          rw [hsd (aux j) hal hai3 (hnb j hjl)]
          have h3 := hkeep j _ _ hij h2
          by_cases hjd : ((ops[j]?).bind (·.dst)) = none
          · exact hno j _ _ _ w2 hjd (hna j hjl hjd) h3
          · rw [hsd j hjl hij hjd]
            exact h3
    rcases hob with ⟨hw, hob⟩ | ⟨hw, hob⟩
    · rw [if_pos hw]
      exact .inl (Oper.wp_mono (fun a2 w2 h => key a2 w2 h) hob)
    · rw [if_neg (by rw [hw]; decide)]
      exact key _ _ hob
  · intro i hi
    rw [Array.getElem?_replicate] at hi
    split at hi <;> cases hi
theorem step_skip {o : Oper} {a : Act} {w w' : World} {K : Act → World → Prop} (h : (execOp a.eval o).run P w = .ok .skip w') (hK : K (a.put o.dst undef) w') : o.wp P a w K Q := by
  unfold Oper.wp; rw [h]; exact hK
/-- What a step owes. -/
def StepK (ops : Array Oper) (base : Array Value) (D : List Nat) (aux : Nat → Nat) (Φ : Nat → Value → Value → World → Prop) (w : World) (g : Nat → Value) (w' : World) (k : Nat) (o : Oper) (a' : Act) (w'' : World) : Prop :=
  ∃ v, a' = (mkAct base D g).put o.dst v ∧ Ext [] w w'' ∧ Φ k v (if aux k = k then v else g (slotOf ops (aux k))) w'' ∧ ∀ j u x, j ≠ k → Φ j u x w' → Φ j u x w''
def StepsK (P : Program) (ops : Array Oper) (Q : Exit → Act → World → Prop) (base : Array Value) (D : List Nat) (aux : Nat → Nat) (Φ : Nat → Value → Value → World → Prop) (w : World) : Nat → List Oper → Prop
  | _, [] => True
  | k, o :: l => (∀ (g : Nat → Value) (w' : World), Ext [] w w' → (∀ e ∈ o.after, Region.binds .any e = true → Φ e.on (g (slotOf ops e.on)) (g (slotOf ops (aux e.on))) w') →
      OpOb P ops Q o (mkAct base D g) w' (StepK ops base D aux Φ w g w' k o)) ∧ StepsK P ops Q base D aux Φ w (k + 1) l
theorem StepsK.get {base : Array Value} {D : List Nat} {aux : Nat → Nat} {Φ : Nat → Value → Value → World → Prop} {w : World} : ∀ (l : List Oper) (k i : Nat) (o : Oper), StepsK P ops Q base D aux Φ w k l → l[i]? = some o →
    ∀ (g : Nat → Value) (w' : World), Ext [] w w' → (∀ e ∈ o.after, Region.binds .any e = true → Φ e.on (g (slotOf ops e.on)) (g (slotOf ops (aux e.on))) w') →
      OpOb P ops Q o (mkAct base D g) w' (StepK ops base D aux Φ w g w' (k + i) o)
  | [], _, _, _, _, h => by simp at h
  | x :: l, k, 0, o, hs, h => by simp at h; subst h; exact hs.1
  | x :: l, k, i + 1, o, hs, h => by
    have := StepsK.get l (k + 1) i o hs.2 (by simpa using h)
    rwa [Nat.add_right_comm, Nat.add_assoc] at this
theorem wp_region_stepsk {id : Nat} {base : Array Value} {w : World} (D : List Nat) (aux : Nat → Nat) (Φ : Nat → Value → Value → World → Prop) (hm : P.follows .mixedOrders = true) (hok : okOpsK ops D = true)
    (hau : okAux ops aux = true) (hno : ∀ (i : Nat) (v v' x : Value) (w' : World), ((ops[i]?).bind (·.dst)) = none → aux i ≠ i → Φ i v x w' → Φ i v' x w') (hna : (List.range ops.size).all (fun i => ((ops[i]?).bind (·.dst)).isSome || decide (aux i ≠ i)) = true) (hnb : (List.range ops.size).all (fun i => ((ops[aux i]?).bind (·.dst)).isSome) = true)
    (hstep : StepsK P ops Q base D aux Φ w 0 ops.toList)
    (hdone : ∀ (g : Nat → Value) (w' : World), Ext [] w w' → (∀ i, i < ops.size → Φ i (g (slotOf ops i)) (g (slotOf ops (aux i))) w') → Q .normal (mkAct base D g) w') :
    (Code.region id ops true).wp P Q ⟨base, []⟩ w :=
  wp_region_invk hm base D _ (mkAct_self base D) hok aux Φ hau hno (fun i hi hn => by
    rw [List.all_eq_true] at hna
    have := hna i (by simpa using hi)
    rw [hn] at this
    simpa using this) (fun i hi hn => by
    rw [List.all_eq_true] at hnb
    have := hnb i (by simpa using hi)
    rw [hn] at this
    cases this) (fun i o g w' ho hx hd => by
    have := StepsK.get ops.toList 0 i o hstep (by simpa using ho) g w' hx hd
    rwa [Nat.zero_add] at this) hdone
/-- A step that leaves all that there was. -/
theorem StepK.of {base : Array Value} {D : List Nat} {aux : Nat → Nat} {Φ : Nat → Value → Value → World → Prop} {w : World} {g : Nat → Value} {w' : World} {k : Nat} {o : Oper} {v : Value} {w'' : World}
    (hst : ∀ (i : Nat) (v x : Value) (w w' : World), Φ i v x w → Ext [] w w' → Φ i v x w') (ha : aux k = k) (hx : Ext [] w w') (hx2 : Ext [] w' w'') (hv : Φ k v v w'') : StepK ops base D aux Φ w g w' k o ((mkAct base D g).put o.dst v) w'' :=
  ⟨v, rfl, hx.then0 hx2, by rw [if_pos ha]; exact hv, fun j u x _ h => hst j u x _ _ h hx2⟩
theorem opOb_k {base : Array Value} {D : List Nat} {aux : Nat → Nat} {Φ : Nat → Value → Value → World → Prop} {w : World} {g : Nat → Value} {w' : World} {k : Nat} {o : Oper}
    (hst : ∀ (i : Nat) (v x : Value) (w w' : World), Φ i v x w → Ext [] w w' → Φ i v x w') (ha : aux k = k) (hx : Ext [] w w')
    (h : OpOb P ops Q o (mkAct base D g) w' (fun a' w'' => ∃ v, a' = (mkAct base D g).put o.dst v ∧ Ext [] w' w'' ∧ Φ k v v w'')) : OpOb P ops Q o (mkAct base D g) w' (StepK ops base D aux Φ w g w' k o) := by
  have key : ∀ a2 w2, (∃ v, a2 = (mkAct base D g).put o.dst v ∧ Ext [] w' w2 ∧ Φ k v v w2) → StepK ops base D aux Φ w g w' k o a2 w2 := by
    rintro a2 w2 ⟨v, rfl, hx2, hv⟩
    exact StepK.of hst ha hx hx2 hv
  rcases h with ⟨hw, h⟩ | ⟨hw, h⟩
  · exact .inl ⟨hw, Oper.wp_mono (fun a2 w2 h => key a2 w2 h) h⟩
  · exact .inr ⟨hw, key _ _ h⟩
end
/-- A row that was made. -/
def IsRow (w0 : World) (T : TypeId) (n : Nat) (y : Value) (w : World) : Prop := ∃ G cs, y = .pointer (some ⟨G, 0, none⟩) ∧ w0.heap.size ≤ G ∧ cs.length = n ∧ Blk w G T cs
theorem IsRow.keep {w0 : World} {T : TypeId} {n : Nat} {y : Value} {w w' : World} (h : IsRow w0 T n y w) (hx : Ext [] w w') : IsRow w0 T n y w' := by
  obtain ⟨G, cs, h1, h2, h3, h4⟩ := h
  exact ⟨G, cs, h1, h2, h3, Blk.keep h4 hx List.not_mem_nil⟩
theorem IsRow.set {w0 : World} {T : TypeId} {n : Nat} {y : Value} {w w' : World} {G : Nat} {cs : List Value} (h : IsRow w0 T n y w) (hl : cs.length = n) (hx : Ext [G] w w') (hb : Blk w' G T cs) : IsRow w0 T n y w' := by
  obtain ⟨G', cs', h1, h2, h3, h4⟩ := h
  by_cases e : G' = G
  · subst e; exact ⟨G', cs, h1, h2, hl, hb⟩
  · exact ⟨G', cs', h1, h2, h3, Blk.keep h4 hx (by simpa using e)⟩
theorem list3 {l : List Value} (h : l.length = 3) : ∃ a b c, l = [a, b, c] := by
  match l, h with
  | [a, b, c], _ => exact ⟨a, b, c, rfl⟩
theorem list4 {l : List Value} (h : l.length = 4) : ∃ a b c d, l = [a, b, c, d] := by
  match l, h with
  | [a, b, c, d], _ => exact ⟨a, b, c, d, rfl⟩
end Go.Proofs.Ytmjgbkepngeckaa
