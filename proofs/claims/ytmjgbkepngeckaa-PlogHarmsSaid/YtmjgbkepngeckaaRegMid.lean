/- A region that draws its order, with ONE operation in the midst that may do anything: all ahead of it only read and make memory, all behind it only reckon with values. No function of the program is named here. -/
import Derived.Test.YtmjgbkepngeckaaRegInvK
namespace Go.Proofs.Ytmjgbkepngeckaa
open Go.RowKit
set_option linter.unusedVariables false
set_option linter.unusedSimpArgs false

section
variable {P : Program} {ops : Array Oper} {Q : Exit → Act → World → Prop}
def edge (ops : Array Oper) (k i : Nat) : Bool := (ops[k]?).any fun o => o.after.any fun e => Region.binds .any e && decide (e.on = i)
/-- What an operation waits for, at last. -/
def waitsFor (ops : Array Oper) (c : Nat) : Nat → List Nat → List Nat
  | 0, S => S
  | i + 1, S => waitsFor ops c i (if S.any (fun k => edge ops k i) then i :: S else S)
/-- What waits for it, at last: of the l operations from i on. -/
def waitOn (ops : Array Oper) : Nat → Nat → List Nat → List Nat
  | 0, _, S => S
  | l + 1, i, S => waitOn ops l (i + 1) (if S.any (fun k => edge ops i k) then i :: S else S)
def okMid (ops : Array Oper) (D : List Nat) (c : Nat) : Bool :=
  okOpsK ops D && decide (c < ops.size) && (List.range c).all (fun i => (waitsFor ops c c [c]).contains i) && (List.range (ops.size - (c + 1))).all (fun i => (waitOn ops (ops.size - (c + 1)) (c + 1) [c]).contains (c + 1 + i)) &&
  (List.range ops.size).all (fun i => decide (i = c) || ((ops[i]?).bind (·.dst)).isSome)
theorem edge_done {L : Array Bool} (hcl : ∀ (j : Nat) (o : Oper), ops[j]? = some o → L[j]? = some true → ∀ e ∈ o.after, Region.binds .any e = true → L[e.on]? = some true) {k i : Nat} (h : edge ops k i = true) (hk : L[k]? = some true) : L[i]? = some true := by
  unfold edge at h
  cases ho : ops[k]? with
  | none => rw [ho] at h; cases h
  | some o =>
    rw [ho] at h
    simp only [Option.any_some] at h
    obtain ⟨j, hj, h2⟩ := Array.any_eq_true.1 h
    rw [Bool.and_eq_true, decide_eq_true_eq] at h2
    rw [← h2.2]
    exact hcl k o ho hk _ (Array.getElem_mem hj) h2.1
theorem waitsFor_done {L : Array Bool} {c : Nat} (hcl : ∀ (j : Nat) (o : Oper), ops[j]? = some o → L[j]? = some true → ∀ e ∈ o.after, Region.binds .any e = true → L[e.on]? = some true)
    (hr : ∀ i, edge ops c i = true → L[i]? = some true) : ∀ (n : Nat) (S : List Nat), (∀ k ∈ S, k = c ∨ L[k]? = some true) → ∀ k ∈ waitsFor ops c n S, k = c ∨ L[k]? = some true := by
  intro n
  induction n with
  | zero => intro S hS; exact hS
  | succ n ih =>
    intro S hS
    unfold waitsFor
    refine ih _ ?_
    split
    · rename_i h
      intro k hk
      rcases List.mem_cons.1 hk with rfl | hk
      · right
        obtain ⟨x, hx, he⟩ := List.any_eq_true.1 h
        rcases hS x hx with rfl | h2
        · exact hr _ he
        · exact edge_done hcl he h2
      · exact hS k hk
    · exact hS
theorem waitOn_done {L : Array Bool} {c : Nat} (hcl : ∀ (j : Nat) (o : Oper), ops[j]? = some o → L[j]? = some true → ∀ e ∈ o.after, Region.binds .any e = true → L[e.on]? = some true) :
    ∀ (l n : Nat) (S : List Nat), (∀ k ∈ S, L[k]? = some true → L[c]? = some true) → ∀ k ∈ waitOn ops l n S, L[k]? = some true → L[c]? = some true := by
  intro l
  induction l with
  | zero => intro n S hS; exact hS
  | succ l ih =>
    intro n S hS
    unfold waitOn
    refine ih _ _ ?_
    split
    · rename_i h
      intro k hk hL
      rcases List.mem_cons.1 hk with rfl | hk
      · obtain ⟨x, hx, he⟩ := List.any_eq_true.1 h
        exact hS x hx (edge_done hcl he hL)
      · exact hS k hk hL
    · exact hS
def InvM (ops : Array Oper) (base : Array Value) (D : List Nat) (c : Nat) (Φ : Nat → Value → World → Prop) (Θ : Nat → Value → Prop) (Mid : Value → World → Prop) (Ψ : Value → Nat → Value → Prop) (w0 : World) (L : Array Bool) (a : Act) (w : World) : Prop :=
  L.size = ops.size ∧ (∀ (j : Nat) (o : Oper), ops[j]? = some o → L[j]? = some true → ∀ e ∈ o.after, Region.binds .any e = true → L[e.on]? = some true) ∧ ∃ g, a = mkAct base D g ∧
    ((L[c]? = some false ∧ Ext [] w0 w ∧ (∀ i, c ≤ i → i < ops.size → ((ops[i]?).bind (·.dst)) ≠ none → g (slotOf ops i) = base.getD (slotOf ops i) undef) ∧ ∀ i, L[i]? = some true → i < c ∧ Φ i (g (slotOf ops i)) w) ∨
     (L[c]? = some true ∧ (∀ i, i < c → L[i]? = some true ∧ Θ i (g (slotOf ops i))) ∧ ∃ v, Mid v w ∧ (((ops[c]?).bind (·.dst)) ≠ none → g (slotOf ops c) = v) ∧ ∀ i, c < i → L[i]? = some true → Ψ v i (g (slotOf ops i))))
theorem wp_region_mid {id : Nat} {base : Array Value} {w : World} (D : List Nat) (c : Nat) (Φ : Nat → Value → World → Prop) (Θ : Nat → Value → Prop) (Mid : Value → World → Prop) (Ψ : Value → Nat → Value → Prop) (hm : P.follows .mixedOrders = true) (hok : okMid ops D c = true)
    (hst : ∀ (i : Nat) (v : Value) (w w' : World), Φ i v w → Ext [] w w' → Φ i v w') (hΘ : ∀ (i : Nat) (v : Value) (w' : World), i < c → Φ i v w' → Θ i v)
    (h1 : ∀ (i : Nat) (o : Oper) (g : Nat → Value) (w' : World), i < c → ops[i]? = some o → Ext [] w w' → (∀ e ∈ o.after, Region.binds .any e = true → Φ e.on (g (slotOf ops e.on)) w') → (∀ i, c ≤ i → i < ops.size → ((ops[i]?).bind (·.dst)) ≠ none → g (slotOf ops i) = base.getD (slotOf ops i) undef) →
      OpOb P ops Q o (mkAct base D g) w' (fun a' w'' => ∃ v, a' = (mkAct base D g).put o.dst v ∧ Ext [] w' w'' ∧ Φ i v w''))
    (h2 : ∀ (o : Oper) (g : Nat → Value) (w' : World), ops[c]? = some o → Ext [] w w' → (∀ i, i < c → Φ i (g (slotOf ops i)) w') → (∀ i, c ≤ i → i < ops.size → ((ops[i]?).bind (·.dst)) ≠ none → g (slotOf ops i) = base.getD (slotOf ops i) undef) →
      OpOb P ops Q o (mkAct base D g) w' (fun a' w'' => ∃ v, a' = (mkAct base D g).put o.dst v ∧ Mid v w''))
    (h3 : ∀ (i : Nat) (o : Oper) (g : Nat → Value) (v : Value) (w' : World), c < i → ops[i]? = some o → Mid v w' → (∀ j, j < c → Θ j (g (slotOf ops j))) → (((ops[c]?).bind (·.dst)) ≠ none → g (slotOf ops c) = v) → (∀ e ∈ o.after, Region.binds .any e = true → c < e.on → Ψ v e.on (g (slotOf ops e.on))) →
      OpOb P ops Q o (mkAct base D g) w' (fun a' w'' => ∃ u, a' = (mkAct base D g).put o.dst u ∧ w'' = w' ∧ Ψ v i u))
    (hdone : ∀ (g : Nat → Value) (v : Value) (w' : World), Mid v w' → (∀ j, j < c → Θ j (g (slotOf ops j))) → (((ops[c]?).bind (·.dst)) ≠ none → g (slotOf ops c) = v) → (∀ i, c < i → i < ops.size → Ψ v i (g (slotOf ops i))) → Q .normal (mkAct base D g) w') :
    (Code.region id ops true).wp P Q ⟨base, []⟩ w := by
  unfold okMid at hok
  simp only [Bool.and_eq_true] at hok
  obtain ⟨⟨⟨⟨hoK, hcs⟩, hanc⟩, hdes⟩, hall⟩ := hok
  have hcs := of_decide_eq_true hcs
  rw [List.all_eq_true] at hanc hdes hall
  unfold okOpsK at hoK
  rw [Bool.and_eq_true, List.all_eq_true, List.all_eq_true] at hoK
  have hlt : ∀ (i : Nat) (o : Oper), ops[i]? = some o → ∀ e ∈ o.after, Region.binds .any e = true → e.on < i := by
    intro i o ho e he hb
    have hl : i < ops.size := (Array.getElem?_eq_some_iff.1 ho).1
    have h := hoK.1 i (by simpa using hl)
    rw [ho] at h
    simp only [Option.all_some, Bool.and_eq_true, Bool.or_eq_true] at h
    have := Array.all_eq_true_iff_forall_mem.1 h.2 e he
    simp only [hb, Bool.not_true, Bool.false_or, decide_eq_true_eq] at this
    exact this
  have hD : ∀ (i : Nat) (o : Oper), ops[i]? = some o → ∀ d, o.dst = some d → o.dst = some (slotOf ops i) ∧ D.contains (slotOf ops i) = true := by
    intro i o ho d hd
    have hl : i < ops.size := (Array.getElem?_eq_some_iff.1 ho).1
    have h := hoK.1 i (by simpa using hl)
    rw [ho] at h
    simp only [Option.all_some, Bool.and_eq_true, Bool.or_eq_true] at h
    have hs : slotOf ops i = d := by unfold slotOf; rw [ho]; simp [hd]
    rw [hs, hd]
    rcases h.1 with h1 | h1
    · rw [hd] at h1; cases h1
    · rw [hs] at h1; exact ⟨rfl, h1⟩
  have hI : ∀ i j, i < ops.size → j < ops.size → i ≠ j → ((ops[i]?).bind (·.dst)) ≠ none → slotOf ops i ≠ slotOf ops j := by
    intro i j hi hj hne hdn
    have h := hoK.2 i (by simpa using hi)
    rw [List.all_eq_true] at h
    have h2 := h j (by simpa using hj)
    simp only [Bool.or_eq_true, decide_eq_true_eq, Option.isNone_iff_eq_none] at h2
    rcases h2 with (h3 | h3) | h3
    · exact absurd h3 hne
    · exact absurd h3 hdn
    · exact h3
  have hdst : ∀ i, i < ops.size → i ≠ c → ((ops[i]?).bind (·.dst)) ≠ none := by
    intro i hi hne e
    have h := hall i (by simpa using hi)
    rw [e] at h
    simp [hne] at h
  have hLt : ∀ (L : Array Bool), L.size = ops.size → ∀ i : Nat, i < ops.size → L[i]? = some true ∨ L[i]? = some false := by
    intro L hs i hi
    have : L[i]? = some L[i] := by simp [hs, hi]
    rw [this]
    cases L[i] <;> simp
  refine wp_region_any hm (wpAny_inv (Inv := InvM ops base D c Φ Θ Mid Ψ w) ?_ ?_ ops.size _ _ _ (by simp) ⟨by simp, ?_, _, mkAct_self base D, .inl ⟨by simp [hcs], (Ext.refl _ w).drew, fun i _ _ _ => rfl, ?_⟩⟩)
  · rintro L a1 w1 ⟨hs, hcl, g, rfl, hI2⟩ hr
    have hmin : ∀ n : Nat, n < ops.size → L[n]? = some true := by
      intro n
      induction n using Nat.strongRecOn with
      | ind n ihn =>
        intro hn
        rcases hLt L hs n hn with h | hLn
        · exact h
        · exfalso
          have hrn : n ∈ Region.ready .any ops L := by
            rw [mem_ready]
            refine ⟨by simp [hLn], ops[n], by simp [hn], fun e he hbd => ?_⟩
            have hlt2 := hlt n ops[n] (by simp [hn]) e he hbd
            have := ihn e.on hlt2 (by omega)
            simp [this]
          rw [hr] at hrn
          cases hrn
    rcases hI2 with ⟨h1', _, _, _⟩ | ⟨_, h2', v, h3', h4', h5'⟩
    · rw [hmin c hcs] at h1'; cases h1'
    · exact hdone g v w1 h3' (fun j hj => (h2' j hj).2) h4' (fun i hi hi2 => h5' i hi (hmin i hi2))
  · rintro L a1 w1 i ⟨hs, hcl, g, rfl, hI2⟩ hi
    obtain ⟨h0, o, ho, hdeps⟩ := mem_ready.1 hi
    have hil : i < ops.size := (Array.getElem?_eq_some_iff.1 ho).1
    have hLi : L[i]? = some false := by
      have hiL : i < L.size := by omega
      have h0' : L[i]?.getD true = false := by simpa using h0
      rw [Array.getElem?_eq_getElem hiL] at h0' ⊢
      simpa using h0'
    have hdn : ∀ e ∈ o.after, Region.binds .any e = true → L[e.on]? = some true := fun e he hb => by
      have := hdeps e he hb
      have hlt2 := hlt i o ho e he hb
      have hsz : e.on < L.size := by omega
      simp [hsz] at this ⊢
      exact this
    have hset : ∀ j : Nat, j ≠ i → (L.setIfInBounds i true)[j]? = L[j]? := by
      intro j hj
      rw [Array.getElem?_setIfInBounds, if_neg (by omega)]
    have hsi : (L.setIfInBounds i true)[i]? = some true := by simp [hs, hil]
    have hcl' : ∀ (j : Nat) (o : Oper), ops[j]? = some o → (L.setIfInBounds i true)[j]? = some true → ∀ e ∈ o.after, Region.binds .any e = true → (L.setIfInBounds i true)[e.on]? = some true := by
      intro j o' ho' hj e he hb
      have key : L[e.on]? = some true := by
        by_cases hji : j = i
        · subst hji
          rw [ho] at ho'
          cases ho'
          exact hdn e he hb
        · rw [hset j hji] at hj
          exact hcl j o' ho' hj e he hb
      by_cases hei : e.on = i
      · rw [hei]; exact hsi
      · rw [hset _ hei]; exact key
    have hupd : ∀ (d : Nat) (v : Value), o.dst = some d → ∀ j, j < ops.size → j ≠ i → ((ops[j]?).bind (·.dst)) ≠ none → updG g (slotOf ops i) v (slotOf ops j) = g (slotOf ops j) := by
      intro d v _ j hjl hij hjd
      unfold updG
      rw [if_neg (hI j i hjl hil hij hjd)]
    unfold wpOp
    simp only [ho]
    rcases hI2 with ⟨hc, hx, hbs, hΦ⟩ | ⟨hc, hT, v0, hMid, hcv, hΨ⟩
    · rcases Nat.lt_trichotomy i c with hic | hic | hic
      · have hob := h1 i o g w1 hic ho hx (fun e he hb => (hΦ e.on (hdn e he hb)).2) hbs
        have key : ∀ a2 w2, (∃ v, a2 = (mkAct base D g).put o.dst v ∧ Ext [] w1 w2 ∧ Φ i v w2) → InvM ops base D c Φ Θ Mid Ψ w (L.setIfInBounds i true) a2 w2 := by
          rintro a2 w2 ⟨v, rfl, hx2, hv⟩
          have hdd := hdst i hil (by omega)
          rw [ho] at hdd
          cases hd : o.dst with
          | none => exact absurd hd hdd
          | some d =>
            obtain ⟨hd2, hDc⟩ := hD i o ho d hd
            rw [hd] at hd2
            rw [hd2, mkAct_put _ _ _ _ _ hDc]
            refine ⟨by simp [hs], hcl', _, rfl, .inl ⟨by rw [hset c (by omega)]; exact hc, hx.then0 hx2, fun j hj1 hj2 hj3 => by rw [hupd d v hd j hj2 (by omega) hj3]; exact hbs j hj1 hj2 hj3, fun j hj => ?_⟩⟩
            by_cases hij : j = i
            · subst hij
              exact ⟨hic, by simpa [updG] using hv⟩
            · rw [hset j hij] at hj
              obtain ⟨p1, p2⟩ := hΦ j hj
              refine ⟨p1, ?_⟩
              rw [hupd d v hd j (by omega) hij (hdst j (by omega) (by omega))]
              exact hst j _ _ _ p2 hx2
        rcases hob with ⟨hw, hob⟩ | ⟨hw, hob⟩
        · rw [if_pos hw]
          exact .inl (Oper.wp_mono (fun a2 w2 h => key a2 w2 h) hob)
        · rw [if_neg (by rw [hw]; decide)]
          exact key _ _ hob
      · subst hic
        have hallb : ∀ k, k < i → L[k]? = some true := by
          intro k hk
          have h4 := hanc k (by simpa using hk)
          have h5 := waitsFor_done (c := i) hcl (fun j hj => by
            unfold edge at hj
            rw [ho] at hj
            simp only [Option.any_some] at hj
            obtain ⟨x, hx, h6⟩ := Array.any_eq_true.1 hj
            rw [Bool.and_eq_true, decide_eq_true_eq] at h6
            rw [← h6.2]
            exact hdn _ (Array.getElem_mem hx) h6.1) i [i] (fun k hk => .inl (by simpa using hk)) k (by simpa using h4)
          rcases h5 with h5 | h5
          · omega
          · exact h5
        have hob := h2 o g w1 ho hx (fun j hj => (hΦ j (hallb j hj)).2) hbs
        have key : ∀ a2 w2, (∃ v, a2 = (mkAct base D g).put o.dst v ∧ Mid v w2) → InvM ops base D i Φ Θ Mid Ψ w (L.setIfInBounds i true) a2 w2 := by
          rintro a2 w2 ⟨v, rfl, hv⟩
          have hno : ∀ j, i < j → (L.setIfInBounds i true)[j]? = some true → False := by
            intro j hj hL
            rw [hset j (by omega)] at hL
            exact absurd (hΦ j hL).1 (by omega)
          cases hd : o.dst with
          | none =>
            refine ⟨by simp [hs], hcl', g, rfl, .inr ⟨hsi, fun j hj => ⟨by rw [hset j (by omega)]; exact hallb j hj, hΘ j _ w1 hj (hΦ j (hallb j hj)).2⟩, v, hv, fun h => absurd (by rw [ho]; exact hd) h, fun j hj hL => (hno j hj hL).elim⟩⟩
          | some d =>
            obtain ⟨hd2, hDc⟩ := hD i o ho d hd
            rw [hd] at hd2
            rw [hd2, mkAct_put _ _ _ _ _ hDc]
            refine ⟨by simp [hs], hcl', _, rfl, .inr ⟨hsi, fun j hj => ⟨by rw [hset j (by omega)]; exact hallb j hj, ?_⟩, v, hv, fun _ => by simp [updG], fun j hj hL => (hno j hj hL).elim⟩⟩
            rw [hupd d v hd j (by omega) (by omega) (hdst j (by omega) (by omega))]
            exact hΘ j _ w1 hj (hΦ j (hallb j hj)).2
        rcases hob with ⟨hw, hob⟩ | ⟨hw, hob⟩
        · rw [if_pos hw]
          exact .inl (Oper.wp_mono (fun a2 w2 h => key a2 w2 h) hob)
        · rw [if_neg (by rw [hw]; decide)]
          exact key _ _ hob
      · exfalso
        -- ready, though what it waits for is not done
        have h4 := hdes (i - (c + 1)) (by simp; omega)
        rw [show c + 1 + (i - (c + 1)) = i by omega] at h4
        have h5 := waitOn_done (L := L.setIfInBounds i true) (c := c) hcl' (ops.size - (c + 1)) (c + 1) [c] (fun k hk hL => by
          have : k = c := by simpa using hk
          rw [this] at hL; exact hL) i (by simpa using h4) hsi
        rw [hset c (by omega), hc] at h5
        cases h5
    · have hci : i ≠ c := fun e => by rw [e, hc] at hLi; cases hLi
      have hic : c < i := by
        rcases Nat.lt_or_gt_of_ne hci with h | h
        · rw [(hT i h).1] at hLi; cases hLi
        · exact h
      have hob := h3 i o g v0 w1 hic ho hMid (fun j hj => (hT j hj).2) hcv (fun e he hb hce => hΨ e.on hce (hdn e he hb))
      have key : ∀ a2 w2, (∃ u, a2 = (mkAct base D g).put o.dst u ∧ w2 = w1 ∧ Ψ v0 i u) → InvM ops base D c Φ Θ Mid Ψ w (L.setIfInBounds i true) a2 w2 := by
        rintro a2 w2 ⟨u, rfl, rfl, hu⟩
        have hdd := hdst i hil hci
        rw [ho] at hdd
        cases hd : o.dst with
        | none => exact absurd hd hdd
        | some d =>
          obtain ⟨hd2, hDc⟩ := hD i o ho d hd
          rw [hd] at hd2
          rw [hd2, mkAct_put _ _ _ _ _ hDc]
          refine ⟨by simp [hs], hcl', _, rfl, .inr ⟨by rw [hset c (by omega)]; exact hc, fun j hj => ?_, v0, hMid, fun h => ?_, fun j hj hL => ?_⟩⟩
          · rw [hset j (by omega), hupd d u hd j (by omega) (by omega) (hdst j (by omega) (by omega))]
            exact hT j hj
          · rw [hupd d u hd c hcs (by omega) h]
            exact hcv h
          · by_cases hij : j = i
            · subst hij
              simpa [updG] using hu
            · rw [hset j hij] at hL
              have hjl : j < ops.size := by
                have := (Array.getElem?_eq_some_iff.1 hL).1
                omega
              rw [hupd d u hd j hjl hij (hdst j hjl (by omega))]
              exact hΨ j hj hL
      rcases hob with ⟨hw, hob⟩ | ⟨hw, hob⟩
      · rw [if_pos hw]
        exact .inl (Oper.wp_mono (fun a2 w2 h => key a2 w2 h) hob)
      · rw [if_neg (by rw [hw]; decide)]
        exact key _ _ hob
  · intro j o _ hj
    rw [Array.getElem?_replicate] at hj
    split at hj <;> cases hj
  · intro j hj
    rw [Array.getElem?_replicate] at hj
    split at hj <;> cases hj
/-- The steps one by one. -/
def StepsM (P : Program) (ops : Array Oper) (Q : Exit → Act → World → Prop) (base : Array Value) (D : List Nat) (c : Nat) (Φ : Nat → Value → World → Prop) (Θ : Nat → Value → Prop) (Mid : Value → World → Prop) (Ψ : Value → Nat → Value → Prop) (w : World) : Nat → List Oper → Prop
  | _, [] => True
  | k, o :: l => (if k < c then (∀ (g : Nat → Value) (w' : World), Ext [] w w' → (∀ e ∈ o.after, Region.binds .any e = true → Φ e.on (g (slotOf ops e.on)) w') → (∀ i, c ≤ i → i < ops.size → ((ops[i]?).bind (·.dst)) ≠ none → g (slotOf ops i) = base.getD (slotOf ops i) undef) →
      OpOb P ops Q o (mkAct base D g) w' (fun a' w'' => ∃ v, a' = (mkAct base D g).put o.dst v ∧ Ext [] w' w'' ∧ Φ k v w''))
    else if k = c then (∀ (g : Nat → Value) (w' : World), Ext [] w w' → (∀ i, i < c → Φ i (g (slotOf ops i)) w') → (∀ i, c ≤ i → i < ops.size → ((ops[i]?).bind (·.dst)) ≠ none → g (slotOf ops i) = base.getD (slotOf ops i) undef) →
      OpOb P ops Q o (mkAct base D g) w' (fun a' w'' => ∃ v, a' = (mkAct base D g).put o.dst v ∧ Mid v w''))
    else (∀ (g : Nat → Value) (v : Value) (w' : World), Mid v w' → (∀ j, j < c → Θ j (g (slotOf ops j))) → (((ops[c]?).bind (·.dst)) ≠ none → g (slotOf ops c) = v) → (∀ e ∈ o.after, Region.binds .any e = true → c < e.on → Ψ v e.on (g (slotOf ops e.on))) →
      OpOb P ops Q o (mkAct base D g) w' (fun a' w'' => ∃ u, a' = (mkAct base D g).put o.dst u ∧ w'' = w' ∧ Ψ v k u))) ∧ StepsM P ops Q base D c Φ Θ Mid Ψ w (k + 1) l
theorem StepsM.get {base : Array Value} {D : List Nat} {c : Nat} {Φ : Nat → Value → World → Prop} {Θ : Nat → Value → Prop} {Mid : Value → World → Prop} {Ψ : Value → Nat → Value → Prop} {w : World} : ∀ (l : List Oper) (k i : Nat) (o : Oper), StepsM P ops Q base D c Φ Θ Mid Ψ w k l → l[i]? = some o →
    (if k + i < c then (∀ (g : Nat → Value) (w' : World), Ext [] w w' → (∀ e ∈ o.after, Region.binds .any e = true → Φ e.on (g (slotOf ops e.on)) w') → (∀ i, c ≤ i → i < ops.size → ((ops[i]?).bind (·.dst)) ≠ none → g (slotOf ops i) = base.getD (slotOf ops i) undef) →
      OpOb P ops Q o (mkAct base D g) w' (fun a' w'' => ∃ v, a' = (mkAct base D g).put o.dst v ∧ Ext [] w' w'' ∧ Φ (k + i) v w''))
    else if k + i = c then (∀ (g : Nat → Value) (w' : World), Ext [] w w' → (∀ i, i < c → Φ i (g (slotOf ops i)) w') → (∀ i, c ≤ i → i < ops.size → ((ops[i]?).bind (·.dst)) ≠ none → g (slotOf ops i) = base.getD (slotOf ops i) undef) →
      OpOb P ops Q o (mkAct base D g) w' (fun a' w'' => ∃ v, a' = (mkAct base D g).put o.dst v ∧ Mid v w''))
    else (∀ (g : Nat → Value) (v : Value) (w' : World), Mid v w' → (∀ j, j < c → Θ j (g (slotOf ops j))) → (((ops[c]?).bind (·.dst)) ≠ none → g (slotOf ops c) = v) → (∀ e ∈ o.after, Region.binds .any e = true → c < e.on → Ψ v e.on (g (slotOf ops e.on))) →
      OpOb P ops Q o (mkAct base D g) w' (fun a' w'' => ∃ u, a' = (mkAct base D g).put o.dst u ∧ w'' = w' ∧ Ψ v (k + i) u)))
  | [], _, _, _, _, h => by simp at h
  | x :: l, k, 0, o, hs, h => by simp at h; subst h; exact hs.1
  | x :: l, k, i + 1, o, hs, h => by
    have := StepsM.get l (k + 1) i o hs.2 (by simpa using h)
    rwa [Nat.add_right_comm, Nat.add_assoc] at this
theorem wp_region_stepsm {id : Nat} {base : Array Value} {w : World} (D : List Nat) (c : Nat) (Φ : Nat → Value → World → Prop) (Θ : Nat → Value → Prop) (Mid : Value → World → Prop) (Ψ : Value → Nat → Value → Prop) (hm : P.follows .mixedOrders = true) (hok : okMid ops D c = true)
    (hst : ∀ (i : Nat) (v : Value) (w w' : World), Φ i v w → Ext [] w w' → Φ i v w') (hΘ : ∀ (i : Nat) (v : Value) (w' : World), i < c → Φ i v w' → Θ i v)
    (hstep : StepsM P ops Q base D c Φ Θ Mid Ψ w 0 ops.toList)
    (hdone : ∀ (g : Nat → Value) (v : Value) (w' : World), Mid v w' → (∀ j, j < c → Θ j (g (slotOf ops j))) → (((ops[c]?).bind (·.dst)) ≠ none → g (slotOf ops c) = v) → (∀ i, c < i → i < ops.size → Ψ v i (g (slotOf ops i))) → Q .normal (mkAct base D g) w') :
    (Code.region id ops true).wp P Q ⟨base, []⟩ w := by
  have hg : ∀ (i : Nat) (o : Oper), ops[i]? = some o → _ := fun i o ho => StepsM.get ops.toList 0 i o hstep (by simpa using ho)
  refine wp_region_mid D c Φ Θ Mid Ψ hm hok hst hΘ (fun i o g w' hi ho hx hd hb => ?_) (fun o g w' ho hx hd hb => ?_) (fun i o g v w' hi ho hM hT hv hd => ?_) hdone
  · have := hg i o ho
    rw [Nat.zero_add, if_pos hi] at this
    exact this g w' hx hd hb
  · have := hg c o ho
    rw [Nat.zero_add, if_neg (by omega), if_pos rfl] at this
    exact this g w' hx hd hb
  · have := hg i o ho
    rw [Nat.zero_add, if_neg (by omega), if_neg (by omega)] at this
    exact this g v w' hM hT hv hd
theorem mid_k {o : Oper} {A : Act} {w : World} {Mid : Value → World → Prop} (h : ∀ K : Act → World → Prop, (∀ v w'', Mid v w'' → K (A.put o.dst v) w'') → o.wp P A w K Q) : o.wp P A w (fun a' w'' => ∃ v, a' = A.put o.dst v ∧ Mid v w'') Q :=
  h _ (fun v w'' h1 => ⟨v, rfl, h1⟩)
end
/-- A part of a tuple. -/
def tupAt : Value → Nat → Value
  | .tuple a, k => a.getD k undef
  | _, _ => undef
end Go.Proofs.Ytmjgbkepngeckaa
