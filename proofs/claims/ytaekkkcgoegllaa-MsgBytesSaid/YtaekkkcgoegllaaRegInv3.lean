/- As RegInv2; which blocks an operation's value leads to is said by vb; the chain's beginning is told of the slots' first values. No function of the program is named here. -/
import Derived.Test.YtaekkkcgoegllaaRegInv
namespace Go.Proofs.Ytaekkkcgoegllaa
open Go.RowKit
set_option linter.unusedVariables false

section
variable {P : Program} {ops : Array Oper} {Q : Exit → Act → World → Prop}
def FloatOb3 (vb : Nat → Value → List Nat) (F0 : List Nat) (P : Program) (ops : Array Oper) (Q : Exit → Act → World → Prop) (base : Array Value) (D cs : List Nat) (Φ : Nat → Value → World → Prop) (w : World) (k : Nat) (o : Oper) : Prop :=
  ∀ (g : Nat → Value) (w' : World), Ext F0 w w' → DepsR ops cs Φ o g w' → o.wp P (mkAct base D g) w' (fun a' w'' => ∃ v, a' = (mkAct base D g).put o.dst v ∧ Ext [] w' w'' ∧ Φ k v w'' ∧ ∀ x ∈ vb k v, (x < w.heap.size ∨ w'.heap.size ≤ x) ∧ x < w''.heap.size) Q
def ChainOb3 (vb : Nat → Value → List Nat) (F0 : List Nat) (P : Program) (ops : Array Oper) (Q : Exit → Act → World → Prop) (base : Array Value) (D cs : List Nat) (Φ : Nat → Value → World → Prop) (C : Nat → (Nat → Value) → List Nat → World → Prop) (w : World) (k : Nat) (o : Oper) : Prop :=
  ∀ (s : Nat) (g : Nat → Value) (O : List Nat) (w' : World), cs[s]? = some k → Ext F0 w w' → DepsR ops cs Φ o g w' → (∀ e ∈ o.after, Region.binds .any e = true → cs.contains e.on = false → ∀ x ∈ vb e.on (g (slotOf ops e.on)), x ∉ O) → C s g O w' → (∀ x ∈ O, w.heap.size ≤ x ∧ x < w'.heap.size) →
    o.wp P (mkAct base D g) w' (fun a' w'' => ∃ v O', a' = (mkAct base D g).put o.dst v ∧ Ext (F0 ++ O) w' w'' ∧ C (s + 1) (updG g (slotOf ops k) v) O' w'' ∧ ∀ x ∈ O', (x ∈ O ∨ w'.heap.size ≤ x) ∧ x < w''.heap.size) Q
def StepsP3 (vb : Nat → Value → List Nat) (F0 : List Nat) (P : Program) (ops : Array Oper) (Q : Exit → Act → World → Prop) (base : Array Value) (D cs : List Nat) (Φ : Nat → Value → World → Prop) (C : Nat → (Nat → Value) → List Nat → World → Prop) (w : World) : Nat → List Oper → Prop
  | _, [] => True
  | k, o :: l => ((cs.contains k = false → FloatOb3 vb F0 P ops Q base D cs Φ w k o) ∧ (cs.contains k = true → ChainOb3 vb F0 P ops Q base D cs Φ C w k o)) ∧ StepsP3 vb F0 P ops Q base D cs Φ C w (k + 1) l
theorem StepsP3.get {vb : Nat → Value → List Nat} {F0 : List Nat} {base : Array Value} {D cs : List Nat} {Φ : Nat → Value → World → Prop} {C : Nat → (Nat → Value) → List Nat → World → Prop} {w : World} : ∀ (l : List Oper) (k i : Nat) (o : Oper), StepsP3 vb F0 P ops Q base D cs Φ C w k l → l[i]? = some o →
    (cs.contains (k + i) = false → FloatOb3 vb F0 P ops Q base D cs Φ w (k + i) o) ∧ (cs.contains (k + i) = true → ChainOb3 vb F0 P ops Q base D cs Φ C w (k + i) o)
  | [], _, _, _, _, h => by simp at h
  | x :: l, k, 0, o, hs, h => by simp at h; subst h; exact hs.1
  | x :: l, k, i + 1, o, hs, h => by
    have := StepsP3.get l (k + 1) i o hs.2 (by simpa using h)
    rwa [Nat.add_right_comm, Nat.add_assoc] at this
def InvP3 (vb : Nat → Value → List Nat) (F0 : List Nat) (ops : Array Oper) (base : Array Value) (D cs : List Nat) (Φ : Nat → Value → World → Prop) (C : Nat → (Nat → Value) → List Nat → World → Prop) (w0 : World) (L : Array Bool) (a : Act) (w : World) : Prop :=
  L.size = ops.size ∧ Ext F0 w0 w ∧ ∃ g s O, a = mkAct base D g ∧ s ≤ cs.length ∧ (∀ j i, cs[j]? = some i → (L[i]? = some true ↔ j < s)) ∧ C s g O w ∧ (∀ x ∈ O, w0.heap.size ≤ x ∧ x < w.heap.size) ∧
    ∀ i, cs.contains i = false → L[i]? = some true → Φ i (g (slotOf ops i)) w ∧ ∀ x ∈ vb i (g (slotOf ops i)), x ∉ O ∧ x < w.heap.size

theorem wp_region_plan3 (vb : Nat → Value → List Nat) (F0 : List Nat) {id : Nat} {base : Array Value} {w : World} (D cs : List Nat) (Φ : Nat → Value → World → Prop) (C : Nat → (Nat → Value) → List Nat → World → Prop) (hm : P.follows .mixedOrders = true) (hok : okOps ops D = true) (hcs : okChain ops cs = true)
    (hΦ : ∀ (i : Nat) (v : Value) (F : List Nat) (w w' : World), Φ i v w → Ext (F0 ++ F) w w' → (∀ x ∈ vb i v, x ∉ F) → Φ i v w')
    (hC : ∀ (s : Nat) (g : Nat → Value) (O : List Nat) (w w' : World), C s g O w → Ext [] w w' → C s g O w')
    (hCg : ∀ (s : Nat) (g g' : Nat → Value) (O : List Nat) (w : World), C s g O w → (∀ i, cs.contains i = true → g (slotOf ops i) = g' (slotOf ops i)) → C s g' O w)
    (h0 : ∀ w', Ext [] w w' → C 0 (fun t => base.getD t undef) [] w')
    (hstep : StepsP3 vb F0 P ops Q base D cs Φ C w 0 ops.toList)
    (hdone : ∀ (g : Nat → Value) (O : List Nat) (w' : World), Ext F0 w w' → C cs.length g O w' → (∀ i, i < ops.size → cs.contains i = false → Φ i (g (slotOf ops i)) w') → Q .normal (mkAct base D g) w') :
    (Code.region id ops true).wp P Q ⟨base, []⟩ w := by
  unfold okOps at hok
  rw [Bool.and_eq_true, List.all_eq_true, List.all_eq_true] at hok
  have hO : ∀ i o, ops[i]? = some o → o.guard = none ∧ o.dst = some (slotOf ops i) ∧ D.contains (slotOf ops i) = true ∧ ∀ e ∈ o.after, Region.binds .any e = true → e.on < i := by
    intro i o ho
    have hlt : i < ops.size := (Array.getElem?_eq_some_iff.1 ho).1
    have h := hok.1 i (by simpa using hlt)
    rw [ho] at h
    simp only [Option.all_some, Bool.and_eq_true, Option.isNone_iff_eq_none] at h
    refine ⟨h.1.1.1, ?_, h.1.2, fun e he hb => ?_⟩
    · obtain ⟨d, hd⟩ := Option.isSome_iff_exists.1 h.1.1.2
      unfold slotOf; rw [ho]; simp [hd]
    · have := Array.all_eq_true_iff_forall_mem.1 h.2 e he
      simp only [hb, Bool.not_true, Bool.false_or, decide_eq_true_eq] at this
      exact this
  have hI : ∀ i j, i < ops.size → j < ops.size → i ≠ j → slotOf ops i ≠ slotOf ops j := by
    intro i j hi hj hne
    have h := hok.2 i (by simpa using hi)
    rw [List.all_eq_true] at h
    have h2 := h j (by simpa using hj)
    simp only [Bool.or_eq_true, decide_eq_true_eq] at h2
    exact h2.resolve_left hne
  unfold okChain at hcs
  rw [List.all_eq_true] at hcs
  have hCh : ∀ j i : Nat, cs[j]? = some i → i < ops.size ∧ (j = 0 ∨ ∃ o, ops[i]? = some o ∧ ∃ e ∈ o.after, Region.binds .any e = true ∧ cs[j - 1]? = some e.on) ∧ ∀ k i', cs[k]? = some i' → j ≠ k → i ≠ i' := by
    intro j i hj
    have hjl : j < cs.length := (List.getElem?_eq_some_iff.1 hj).1
    have h := hcs j (by simpa using hjl)
    have hg : cs.getD j 0 = i := by simp [List.getD, hj]
    rw [hg] at h
    simp only [Bool.and_eq_true, decide_eq_true_eq, Bool.or_eq_true, List.all_eq_true] at h
    obtain ⟨⟨h1, h2⟩, h3⟩ := h
    refine ⟨h1, ?_, fun k i' hk hne => ?_⟩
    · rcases h2 with h2 | h2
      · exact .inl h2
      · right
        have ho : ops[i]? = some ops[i] := by simp [h1]
        rw [ho] at h2
        simp only [Option.all_some] at h2
        rw [Array.any_eq_true] at h2
        obtain ⟨n, hn, hb⟩ := h2
        have he := Array.getElem_mem hn
        obtain ⟨e, hee⟩ : ∃ e, e = (ops[i]).after[n] := ⟨_, rfl⟩
        rw [← hee] at hb he
        simp only [Bool.and_eq_true, decide_eq_true_eq] at hb
        have hjl2 : j - 1 < cs.length := by omega
        exact ⟨_, ho, e, he, hb.1, by rw [hb.2]; simp [List.getD, hjl2]⟩
    · have hkl : k < cs.length := (List.getElem?_eq_some_iff.1 hk).1
      have := h3 k (by simpa using hkl)
      rcases this with h4 | h4
      · exact absurd h4 hne
      · simpa [List.getD, hk] using h4
  have hmem : ∀ i : Nat, cs.contains i = true ↔ ∃ j : Nat, cs[j]? = some i := by
    intro i
    rw [List.contains_iff_mem, List.mem_iff_getElem?]
  refine wp_region_any hm (wpAny_inv (Inv := InvP3 vb F0 ops base D cs Φ C w) ?_ ?_ ops.size _ _ _ (by simp) ⟨by simp, (Ext.refl _ w).drew, _, 0, [], mkAct_self base D, Nat.zero_le _, ?_, h0 _ ((Ext.refl _ w).drew), by simp, ?_⟩)
  · rintro L a1 w1 ⟨hs, hx, g, s, O, rfl, hsl, hsc, hCs, hOO, hΦs⟩ hr
    have hall : ∀ n, n < ops.size → L[n]? = some true := by
      intro n
      induction n using Nat.strongRecOn with
      | ind n ihn =>
        intro hn
        have hL : L[n]? = some L[n] := by simp [hs, hn]
        rw [hL]
        cases hb : L[n] with
        | true => rfl
        | false =>
          exfalso
          have hrn : n ∈ Region.ready .any ops L := by
            rw [mem_ready]
            refine ⟨by simp [hL, hb], ops[n], by simp [hn], fun e he hbd => ?_⟩
            have hlt2 := (hO n ops[n] (by simp [hn])).2.2.2 e he hbd
            have := ihn e.on hlt2 (by omega)
            simp [this]
          rw [hr] at hrn
          cases hrn
    have hsl2 : s = cs.length := by
      rcases Nat.lt_or_ge s cs.length with h | h
      · exfalso
        have h1 : cs[s]? = some cs[s] := by simp [h]
        have := (hsc s _ h1).1 (hall _ (hCh s _ h1).1)
        omega
      · omega
    subst hsl2
    exact hdone g O w1 hx hCs (fun i hi hc => (hΦs i hc (hall i hi)).1)
  · rintro L a1 w1 i ⟨hs, hx, g, s, O, rfl, hsl, hsc, hCs, hOO, hΦs⟩ hi
    obtain ⟨h0', o, ho, hdeps⟩ := mem_ready.1 hi
    obtain ⟨hg, hd, hD, hlt⟩ := hO i o ho
    have hil : i < ops.size := (Array.getElem?_eq_some_iff.1 ho).1
    have hLi : L[i]? = some false := by
      have : i < L.size := by omega
      simp [this] at h0' ⊢; exact h0'
    unfold wpOp
    simp only [ho]
    have hw : Region.wanted o (yielded ops (mkAct base D g).tmps) = true := by simp [Region.wanted, hg]
    rw [if_pos hw]
    have hdp : DepsR ops cs Φ o g w1 := by
      intro e he hb hc
      have hlt2 := hlt e he hb
      have hsz : e.on < L.size := by omega
      have := hdeps e he hb
      exact (hΦs e.on hc (by simp [hsz] at this ⊢; exact this)).1
    have hsp : ∀ e ∈ o.after, Region.binds .any e = true → cs.contains e.on = false → ∀ x ∈ vb e.on (g (slotOf ops e.on)), x ∉ O := by
      intro e he hb hc x hx'
      have hlt2 := hlt e he hb
      have hsz : e.on < L.size := by omega
      have := hdeps e he hb
      exact ((hΦs e.on hc (by simp [hsz] at this ⊢; exact this)).2 x hx').1
    have hob := StepsP3.get ops.toList 0 i o hstep (by simpa using ho)
    rw [Nat.zero_add] at hob
    have hset : ∀ j, j ≠ i → (L.setIfInBounds i true)[j]? = L[j]? := fun j hj => by rw [Array.getElem?_setIfInBounds]; simp [Ne.symm hj]
    have hseti : (L.setIfInBounds i true)[i]? = some true := by
      have : i < L.size := by omega
      simp [this]
    by_cases hc : cs.contains i = true
    · obtain ⟨j, hj⟩ := (hmem i).1 hc
      have hjs : j = s := by
        have h1 : ¬ j < s := fun h => by rw [(hsc j i hj).2 h] at hLi; cases hLi
        rcases (hCh j i hj).2.1 with h2 | ⟨o', ho', e, he, hb, hj1⟩
        · omega
        · rw [ho] at ho'; cases ho'
          have hlt2 := hlt e he hb
          have hsz : e.on < L.size := by omega
          have := hdeps e he hb
          have h3 := (hsc (j - 1) e.on hj1).1 (by simp [hsz] at this ⊢; exact this)
          omega
      subst hjs
      refine .inl (Oper.wp_mono ?_ (hob.2 hc j g O w1 hj hx hdp hsp hCs hOO))
      rintro a2 w2 ⟨v, O', rfl, hx2, hC2, hO2⟩
      rw [hd, mkAct_put _ _ _ _ _ hD]
      have hjl : j < cs.length := (List.getElem?_eq_some_iff.1 hj).1
      refine ⟨by simp [hs], hx.trans hx2 (fun x hx' => (List.mem_append.1 hx').imp_right (fun h => (hOO x h).1)), _, j + 1, O', rfl, hjl, fun k i' hk => ?_, hC2, fun x hx' => ⟨?_, (hO2 x hx').2⟩, fun i' hc' hL' => ?_⟩
      · by_cases hik : i' = i
        · subst hik
          have : k = j := by
            by_cases h : j = k
            · exact h.symm
            · exact absurd rfl ((hCh j i' hj).2.2 k i' hk h)
          subst this
          exact ⟨fun _ => by omega, fun _ => hseti⟩
        · rw [hset i' hik, hsc k i' hk]
          have : k ≠ j := fun h => by subst h; rw [hj] at hk; cases hk; exact hik rfl
          omega
      · rcases (hO2 x hx').1 with h | h
        · exact (hOO x h).1
        · have := hx.size; omega
      · have hne : i' ≠ i := fun h => by subst h; rw [hc] at hc'; cases hc'
        rw [hset i' hne] at hL'
        have hi'l : i' < ops.size := by
          have := (Array.getElem?_eq_some_iff.1 hL').1
          omega
        obtain ⟨h1, h2⟩ := hΦs i' hc' hL'
        unfold updG
        rw [if_neg (hI i' i hi'l hil hne)]
        refine ⟨hΦ _ _ O _ _ h1 hx2 (fun x hx' => (h2 x hx').1), fun x hx' => ⟨fun hxO => ?_, Nat.lt_of_lt_of_le (h2 x hx').2 hx2.size⟩⟩
        rcases (hO2 x hxO).1 with h | h
        · exact (h2 x hx').1 h
        · have := (h2 x hx').2; omega
    · have hc' : cs.contains i = false := by simpa using hc
      refine .inl (Oper.wp_mono ?_ (hob.1 hc' g w1 hx hdp))
      rintro a2 w2 ⟨v, rfl, hx2, hv, hvb⟩
      rw [hd, mkAct_put _ _ _ _ _ hD]
      refine ⟨by simp [hs], hx.then0 hx2, _, s, O, rfl, hsl, fun k i' hk => ?_, ?_, fun x hx' => ⟨(hOO x hx').1, Nat.lt_of_lt_of_le (hOO x hx').2 hx2.size⟩, fun i' hci hL' => ?_⟩
      · have hik : i' ≠ i := fun h => by subst h; rw [(hmem i').2 ⟨k, hk⟩] at hc'; cases hc'
        rw [hset i' hik]; exact hsc k i' hk
      · refine hCg s g _ O w2 (hC _ _ _ _ _ hCs hx2) (fun i' hci => ?_)
        have hik : i' ≠ i := fun h => by subst h; rw [hci] at hc'; cases hc'
        obtain ⟨k, hk⟩ := (hmem i').1 hci
        unfold updG
        rw [if_neg (hI i' i (hCh k i' hk).1 hil hik)]
      · by_cases hik : i' = i
        · subst hik
          unfold updG
          rw [if_pos rfl]
          refine ⟨hv, fun x hx' => ⟨fun hxO => ?_, (hvb x hx').2⟩⟩
          have h1 := hOO x hxO
          rcases (hvb x hx').1 with h | h <;> omega
        · rw [hset i' hik] at hL'
          have hi'l : i' < ops.size := by
            have := (Array.getElem?_eq_some_iff.1 hL').1
            omega
          obtain ⟨h1, h2⟩ := hΦs i' hci hL'
          unfold updG
          rw [if_neg (hI i' i hi'l hil hik)]
          exact ⟨hΦ _ _ [] _ _ h1 (hx2.mono (by simp)) (by simp), fun x hx' => ⟨(h2 x hx').1, Nat.lt_of_lt_of_le (h2 x hx').2 hx2.size⟩⟩
  · intro j i hj
    rw [Array.getElem?_replicate]
    split <;> simp
  · intro i _ hi
    rw [Array.getElem?_replicate] at hi
    split at hi <;> cases hi
/-- A chain's step, what follows behind a letter. -/
theorem chain_k3 {F0 : List Nat} {o : Oper} {A : Act} {w : World} {O : List Nat} {Cn : Value → List Nat → World → Prop} (h : ∀ K : Act → World → Prop, (∀ v O' w'', Ext (F0 ++ O) w w'' → Cn v O' w'' → (∀ x ∈ O', (x ∈ O ∨ w.heap.size ≤ x) ∧ x < w''.heap.size) → K (A.put o.dst v) w'') → o.wp P A w K Q) :
    o.wp P A w (fun a' w'' => ∃ v O', a' = A.put o.dst v ∧ Ext (F0 ++ O) w w'' ∧ Cn v O' w'' ∧ ∀ x ∈ O', (x ∈ O ∨ w.heap.size ≤ x) ∧ x < w''.heap.size) Q :=
  h _ (fun v O' w'' h1 h2 h3 => ⟨v, O', rfl, h1, h2, h3⟩)
end
end Go.Proofs.Ytaekkkcgoegllaa
