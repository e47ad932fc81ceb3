/- A region that draws its order, by an invariant of the caller's own over what has been done. No function of the program is named here. -/
import Derived.Test.YtaekkkcgoegllaaRegDet
import Derived.Test.YtaekkkcgoegllaaRowb
namespace Go.Proofs.Ytaekkkcgoegllaa
open Go.RowKit
set_option linter.unusedVariables false

section
variable {P : Program} {ops : Array Oper} {Q : Exit → Act → World → Prop}
theorem wp_region_J {id : Nat} {base : Array Value} {w : World} (D : List Nat) (J : Array Bool → (Nat → Value) → World → Prop) (hm : P.follows .mixedOrders = true) (hgu : ops.toList.all (fun o => o.guard.isNone) = true) (hed : (List.range ops.size).all (fun i => (ops[i]?).all fun o => o.after.all fun e => !Region.binds .any e || decide (e.on < i)) = true)
    (h0 : J (Array.replicate ops.size false) (fun t => base.getD t undef) w.drew)
    (hstep : ∀ (i : Nat) (o : Oper), ops[i]? = some o → ∀ (L : Array Bool) (g : Nat → Value) (w' : World), L.size = ops.size → L[i]? = some false → (∀ e ∈ o.after, Region.binds .any e = true → L[e.on]? = some true) → J L g w' →
      o.wp P (mkAct base D g) w' (fun a' w'' => ∃ g', a' = mkAct base D g' ∧ J (L.setIfInBounds i true) g' w'') Q)
    (hdone : ∀ (g : Nat → Value) (w' : World), J (Array.replicate ops.size true) g w' → Q .normal (mkAct base D g) w') :
    (Code.region id ops true).wp P Q ⟨base, []⟩ w := by
  have hg : ∀ (i : Nat) (o : Oper), ops[i]? = some o → o.guard = none := by
    intro i o ho
    rw [List.all_eq_true] at hgu
    have := hgu o (by have := Array.mem_of_getElem? ho; simpa using this)
    simpa using this
  have hO : ∀ (i : Nat) (o : Oper), ops[i]? = some o → ∀ e ∈ o.after, Region.binds .any e = true → e.on < i := by
    intro i o ho e he hb
    rw [List.all_eq_true] at hed
    have hlt : i < ops.size := (Array.getElem?_eq_some_iff.1 ho).1
    have h := hed i (by simpa using hlt)
    rw [ho] at h
    have := Array.all_eq_true_iff_forall_mem.1 h e he
    simp only [hb, Bool.not_true, Bool.false_or, decide_eq_true_eq] at this
    exact this
  refine wp_region_any hm (wpAny_inv (Inv := fun L a w' => L.size = ops.size ∧ ∃ g, a = mkAct base D g ∧ J L g w') ?_ ?_ ops.size _ _ _ (by simp) ⟨by simp, _, mkAct_self base D, h0⟩)
  · rintro L a1 w1 ⟨hs, g, rfl, hJ⟩ hr
    have hall : ∀ n, n < ops.size → L[n]? = some true := by
      intro n
      induction n using Nat.strongRecOn with
      | ind n ihn =>
        intro hn
        have hL : L[n]? = some L[n] := by simp [hs, hn]
        rw [hL]
        cases hb : L[n] with
        | true => rfl
        | false =>
          exfalso
          have hrn : n ∈ Region.ready .any ops L := by
            rw [mem_ready]
            refine ⟨by simp [hL, hb], ops[n], by simp [hn], fun e he hbd => ?_⟩
            have hlt2 := hO n ops[n] (by simp [hn]) e he hbd
            have := ihn e.on hlt2 (by omega)
            simp [this]
          rw [hr] at hrn
          cases hrn
    have hLe : L = Array.replicate ops.size true := by
      apply Array.ext
      · simp [hs]
      · intro n h1 h2
        have := hall n (by omega)
        rw [Array.getElem?_eq_getElem h1] at this
        simpa using Option.some.inj this
    rw [hLe] at hJ
    exact hdone g w1 hJ
  · rintro L a1 w1 i ⟨hs, g, rfl, hJ⟩ hi
    obtain ⟨h0', o, ho, hdeps⟩ := mem_ready.1 hi
    have hil : i < ops.size := (Array.getElem?_eq_some_iff.1 ho).1
    have hLi : L[i]? = some false := by
      have : i < L.size := by omega
      simp [this] at h0' ⊢; exact h0'
    have hdp : ∀ e ∈ o.after, Region.binds .any e = true → L[e.on]? = some true := by
      intro e he hb
      have hlt2 := hO i o ho e he hb
      have hsz : e.on < L.size := by omega
      have := hdeps e he hb
      simp [hsz] at this ⊢; exact this
    unfold wpOp
    simp only [ho]
    have hw : Region.wanted o (yielded ops (mkAct base D g).tmps) = true := by simp [Region.wanted, hg i o ho]
    rw [if_pos hw]
    refine .inl (Oper.wp_mono ?_ (hstep i o ho L g w1 hs hLi hdp hJ))
    rintro a2 w2 ⟨g', rfl, hJ'⟩
    exact ⟨by simp [hs], g', rfl, hJ'⟩
end
/-- Was it done? -/
theorem setB_same {L : Array Bool} {n i : Nat} (hs : L.size = n) (hi : i < n) : (L.setIfInBounds i true)[i]? = some true := by
  have : i < L.size := by omega
  simp [this]
theorem setB_other {L : Array Bool} {i j : Nat} (h : j ≠ i) : (L.setIfInBounds i true)[j]? = L[j]? := by
  rw [Array.getElem?_setIfInBounds]; simp [Ne.symm h]
theorem Blk.setCells {w : World} {p : Nat} {T : TypeId} : ∀ (vs done rest : List Value), Blk w p T (done ++ rest) → rest.length = vs.length → Blk (w.setCells p done.length vs) p T (done ++ vs)
  | [], done, rest, h, hl => by
    have : rest = [] := List.length_eq_zero_iff.1 (by simpa using hl)
    subst this; exact h
  | v :: vs, done, rest, h, hl => by
    obtain ⟨r, rest, rfl⟩ : ∃ r l, rest = r :: l := by
      cases rest with
      | nil => simp at hl
      | cons r l => exact ⟨r, l, rfl⟩
    rw [World.setCells]
    have h1 := h.set done.length v
    have e : (done ++ r :: rest).set done.length v = (done ++ [v]) ++ rest := by simp
    rw [e] at h1
    have := Blk.setCells (w := w.setCell ⟨p, done.length, none⟩ v) vs (done ++ [v]) rest h1 (by simpa using hl)
    rw [List.length_append, List.length_singleton] at this
    simpa using this
theorem Blk.fill {w : World} {p : Nat} {T : TypeId} {cs vs : List Value} (h : Blk w p T cs) (hl : cs.length = vs.length) : Blk (w.setCells p 0 vs) p T vs := by
  have := Blk.setCells vs [] cs h hl
  simpa using this
theorem wp_alloc_row {P : Program} {o : Oper} {a : Act} {w : World} {K : Act → World → Prop} {Q : Exit → Act → World → Prop} (T : TypeId) (ho : o.op = .alloc T) (cs : List Value)
    (hal : ∀ W, (Instr.alloc T true (.tuple #[])).run P W = .ok (.pointer (some ⟨W.heap.size, 0, none⟩)) (W.alloc (.cells cs.toArray T)))
    (h : K (a.put o.dst (.pointer (some ⟨w.heap.size, 0, none⟩))) (w.alloc (.cells cs.toArray T))) : o.wp P a w K Q := by
  unfold Oper.wp execOp
  simp only [ho, Sem.run_bind, hal, Result.andThen_ok, Sem.run_pure, Oper.upon_value]
  exact h
end Go.Proofs.Ytaekkkcgoegllaa
