/- A rec written where the power may fail: what is there behind it. No program in sight. -/
import Derived.Test.YtlnfigbcdmfmdaaWr
namespace Go.Proofs.Ytlnfigbcdmfmdaa
set_option linter.unusedVariables false
set_option linter.unusedSimpArgs false

/-- A device all of whose writes are safe, with power or without. -/
structure Calm (D : Dv) (n : Int) (V : Int → Sl) : Prop where
  size : D.size = n
  big : n ≤ 4096
  since : D.since = []
  view : ∀ k, 0 ≤ k → k < n → V k = slotv (D.lost k) (D.safe k)
  hurt : ∀ k, 0 ≤ k → k < n → D.hurt k = true → (V k).1 = 2
theorem Fine.calm {D : Dv} {n : Int} {V : Int → Sl} (h : Fine D n V 0) : Calm D n V := by
  have hs : D.since = [] := List.eq_nil_of_length_eq_zero (by have := h.since; omega)
  refine ⟨h.size, h.big, hs, fun k h1 h2 => ?_, fun k h1 h2 hh => ?_⟩
  · rw [h.view k h1 h2]; unfold contD; rw [hs]; rfl
  · have := h.hurt k h1 h2 hh
    rw [hs] at this
    exact this.resolve_right (fun h => h rfl)
theorem Calm.like {D D' : Dv} {n : Int} {V : Int → Sl} (h : Calm D n V) (h1 : D'.size = D.size) (h2 : D'.since = D.since) (h3 : D'.lost = D.lost) (h4 : D'.safe = D.safe) (h5 : D'.hurt = D.hurt) : Calm D' n V :=
  ⟨by rw [h1]; exact h.size, h.big, by rw [h2]; exact h.since, by rw [h3, h4]; exact h.view, by rw [h5]; exact h.hurt⟩
theorem Calm.crash {D : Dv} {n : Int} {V : Int → Sl} (h : Calm D n V) (h0 : 0 ≤ n) (fs : List Int) : Fine (crashD fs D) n V 0 := by
  have e : crashD fs D = bareD D := by unfold crashD; rw [h.since]; rfl
  rw [e]
  refine ⟨⟨rfl, rfl⟩, by show min (max D.size 0) 4096 = n; rw [h.size]; have := h.big; omega, h.big, by simp [bareD, newD], fun k h1 h2 => h.view k h1 h2, fun k h1 h2 hh => .inl (h.hurt k h1 h2 hh)⟩
/-- A block's safe bytes are a rec's. -/
structure Under (D : Dv) (k : Int) (r : Rc) : Prop where
  safe : D.safe k = putV r
  hurt : D.hurt k = false
  put : putE r = 0
/-- One write under way. -/
structure One (D D' : Dv) (k : Int) (r : Rc) : Prop where
  size : D'.size = D.size
  since : D'.since = [(k, putV r)]
  lost : D'.lost = setF D.lost k false
  safe : D'.safe = D.safe
  hurt : D'.hurt = D.hurt
theorem One.crash {D D' : Dv} {n : Int} {V : Int → Sl} {k : Int} {r : Rc} (h : One D D' k r) (hc : Calm D n V) (h0 : 0 ≤ n) (hu : Under D k r) (f : Int) : ∃ s, (s = (1, r) ∨ s = (2, Rc.zero)) ∧ Fine (crashD [f] D') n (setF V k s) 0 := by
  have e : crashD [f] D' = fateD f (k, putV r) (bareD D') := by unfold crashD; rw [h.since]; rfl
  obtain ⟨B, hB⟩ : ∃ B, B = bareD D' := ⟨_, rfl⟩
  have b1 : B.size = n := by rw [hB]; show min (max D'.size 0) 4096 = n; rw [h.size, hc.size]; have := hc.big; omega
  have b2 : B.since = [] := by rw [hB]; rfl
  have b3 : B.safe = D.safe := by rw [hB]; exact h.safe
  have b4 : B.lost = setF D.lost k false := by rw [hB]; exact h.lost
  have b5 : B.hurt = D.hurt := by rw [hB]; exact h.hurt
  have b6 : B.fall = -1 ∧ B.down = false := by rw [hB]; exact ⟨rfl, rfl⟩
  rw [e, ← hB]
  clear e hB
  have hgp := get_put hu.put
  have hlen := putV_len hu.put
  unfold fateD
  by_cases f1 : f = 1
  · rw [if_pos f1]
    refine ⟨(1, r), .inl rfl, ⟨b6.1, b6.2⟩, b1, hc.big, by show B.since.length ≤ 0; rw [b2]; simp, fun j h1 h2 => ?_, fun j h1 h2 hh => ?_⟩
    · show setF V k (1, r) j = slotv (B.lost j) ((lastW B.since j).getD (setF B.safe k (putV r) j))
      rw [b2, b4, b3]
      show setF V k (1, r) j = slotv (setF D.lost k false j) (setF D.safe k (putV r) j)
      by_cases e : j = k
      · subst e; rw [setF_same, setF_same, setF_same, slotv, if_neg (by decide), hgp.1, hgp.2]
      · rw [setF_other _ _ _ _ e, setF_other _ _ _ _ e, setF_other _ _ _ _ e]; exact hc.view j h1 h2
    · have hh' : setF B.hurt k false j = true := hh
      by_cases e : j = k
      · subst e; rw [setF_same] at hh'; cases hh'
      · rw [setF_other _ _ _ _ e] at hh' ⊢
        rw [b5] at hh'
        exact .inl (hc.hurt j h1 h2 hh')
  · rw [if_neg f1]
    by_cases f2 : f = 2
    · rw [if_pos f2]
      have hb := torn_bad hu.put ((putV r).length / 2) (by omega) (by omega)
      refine ⟨(2, Rc.zero), .inr rfl, ⟨b6.1, b6.2⟩, b1, hc.big, by show B.since.length ≤ 0; rw [b2]; simp, fun j h1 h2 => ?_, fun j h1 h2 hh => ?_⟩
      · show setF V k (2, Rc.zero) j = slotv (B.lost j) ((lastW B.since j).getD (setF B.safe k ((putV r).take ((putV r).length / 2)) j))
        rw [b2, b4, b3]
        show setF V k (2, Rc.zero) j = slotv (setF D.lost k false j) (setF D.safe k ((putV r).take ((putV r).length / 2)) j)
        by_cases e : j = k
        · subst e; rw [setF_same, setF_same, setF_same, slotv, if_neg (by decide), hb, getR_zero (by omega)]
        · rw [setF_other _ _ _ _ e, setF_other _ _ _ _ e, setF_other _ _ _ _ e]; exact hc.view j h1 h2
      · by_cases e : j = k
        · rw [e, setF_same]; exact .inl rfl
        · have hh' : setF B.hurt k true j = true := hh
          rw [setF_other _ _ _ _ e, b5] at hh'
          rw [setF_other _ _ _ _ e]
          exact .inl (hc.hurt j h1 h2 hh')
    · rw [if_neg f2]
      refine ⟨(1, r), .inl rfl, ⟨b6.1, b6.2⟩, b1, hc.big, by rw [b2]; simp, fun j h1 h2 => ?_, fun j h1 h2 hh => ?_⟩
      · unfold contD
        rw [b2, b4, b3]
        show setF V k (1, r) j = slotv (setF D.lost k false j) (D.safe j)
        by_cases e : j = k
        · subst e; rw [setF_same, setF_same, slotv, if_neg (by decide), hu.safe, hgp.1, hgp.2]
        · rw [setF_other _ _ _ _ e, setF_other _ _ _ _ e]; exact hc.view j h1 h2
      · rw [b5] at hh
        by_cases e : j = k
        · rw [e, hu.hurt] at hh; cases hh
        · rw [setF_other _ _ _ _ e]; exact .inl (hc.hurt j h1 h2 hh)
/-- One rec written, made safe, the power failing at turn F. -/
inductive Phase (D : Dv) (n : Int) (V : Int → Sl) (k : Int) (r : Rc) (F : Int) : Int × Dv → Prop where
  | none {D'} (h1 : Calm D' n V) (h2 : D'.lost = D.lost) : Phase D n V k r F (5, D')
  | one {D'} (h : One D D' k r) : Phase D n V k r F (5, D')
  | done {D'} (h : Calm D' n (setF V k (1, r))) (h1 : 2 ≤ F) (h2 : D'.fall = F - 2) (h3 : D'.down = false) (h4 : ∀ j, j ≠ k → D'.safe j = D.safe j ∧ D'.hurt j = D.hurt j) : Phase D n V k r F (0, D')
theorem phase {D : Dv} {n : Int} {V : Int → Sl} {k : Int} {r : Rc} {F : Int} (hc : Calm D n V) (hf : D.fall = F) (hF : 0 ≤ F) (hd : D.down = false) (h1 : 0 ≤ k) (h2 : k < n) (hp : putE r = 0) : Phase D n V k r F (wrf [(k, r)] D) := by
  have hgp := get_put hp
  have hle := putV_le r
  by_cases f0 : F = 0
  · have e1 : turnE D = 5 := by unfold turnE; rw [if_pos (.inr (by omega))]
    have e2 : turnD D = { D with down := true } := by unfold turnD; rw [hd, if_neg (by decide), if_pos (by omega)]
    have e3 : swE k r D = 5 := by unfold swE writeE; rw [if_pos hp, e1, if_pos rfl]
    have e4 : swD k r D = { D with down := true } := by
      unfold swD writeD
      rw [if_pos hp]
      have : writeE k (putV r) D = 5 := by unfold writeE; rw [e1, if_pos rfl]
      rw [this, if_neg (by decide), e2]
    have e5 : wrf [(k, r)] D = (5, { D with down := true }) := by
      have : wrs [(k, r)] D = (5, { D with down := true }) := by
        show (if swE k r D = 0 then (0, swD k r D) else (swE k r D, swD k r D)) = _
        rw [e3, e4]; rfl
      unfold wrf
      rw [this]; rfl
    rw [e5]
    exact .none (hc.like rfl rfl rfl rfl rfl) rfl
  · have e1 : turnE D = 0 := by unfold turnE; rw [if_neg (by rw [hd, hf]; simp; omega)]
    have e2 : turnD D = { D with fall := F - 1 } := by unfold turnD; rw [hd, if_neg (by decide), if_neg (by omega), if_pos (by omega), hf]
    have ew : writeE k (putV r) D = 0 := by unfold writeE; rw [e1, if_neg (by decide), if_neg (by rw [hc.size]; omega), if_neg (by omega)]
    have e3 : swE k r D = 0 := by unfold swE; rw [if_pos hp, ew]
    have e4 : swD k r D = addD k (putV r) { D with fall := F - 1 } := by unfold swD writeD; rw [if_pos hp, if_pos ew, e2]
    obtain ⟨D1, hD1⟩ : ∃ D1, D1 = addD k (putV r) { D with fall := F - 1 } := ⟨_, rfl⟩
    have e5 : wrs [(k, r)] D = (0, D1) := by
      show (if swE k r D = 0 then (0, swD k r D) else (swE k r D, swD k r D)) = _
      rw [e3, e4, hD1]; rfl
    have d1 : D1.size = D.size ∧ D1.since = [(k, putV r)] ∧ D1.lost = setF D.lost k false ∧ D1.safe = D.safe ∧ D1.hurt = D.hurt ∧ D1.fall = F - 1 ∧ D1.down = false := by
      rw [hD1]
      refine ⟨rfl, ?_, rfl, rfl, rfl, rfl, hd⟩
      show D.since ++ [(k, putV r)] = _
      rw [hc.since]; rfl
    obtain ⟨d1, d2, d3, d4, d5, d6, d7⟩ := d1
    have e6 : wrf [(k, r)] D = (turnE D1, flushD D1) := by unfold wrf; rw [e5]; rfl
    rw [e6]
    by_cases f1 : F = 1
    · have t1 : turnE D1 = 5 := by unfold turnE; rw [if_pos (.inr (by omega))]
      have t2 : flushD D1 = { D1 with down := true } := by
        unfold flushD
        rw [t1, if_pos rfl]
        unfold turnD; rw [d7, if_neg (by decide), if_pos (by omega)]
      rw [t1, t2]
      exact .one ⟨d1, d2, d3, d4, d5⟩
    · have t1 : turnE D1 = 0 := by unfold turnE; rw [if_neg (by rw [d7, d6]; simp; omega)]
      have t2 : flushD D1 = { putsD D1.since { D1 with fall := F - 2 } with since := [] } := by
        unfold flushD
        rw [t1, if_neg (by decide)]
        have : turnD D1 = { D1 with fall := F - 2 } := by unfold turnD; rw [d7, if_neg (by decide), if_neg (by omega), if_pos (by omega), d6]; congr 1; omega
        rw [this]
      rw [t1, t2, d2]
      refine .done ⟨?_, hc.big, rfl, fun j g1 g2 => ?_, fun j g1 g2 hh => ?_⟩ (by omega) rfl d7 (fun j hj => ⟨?_, ?_⟩)
      · show D1.size = n; rw [d1]; exact hc.size
      · show setF V k (1, r) j = slotv (D1.lost j) (setF D1.safe k (putV r) j)
        rw [d3, d4]
        by_cases e : j = k
        · subst e; rw [setF_same, setF_same, setF_same, slotv, if_neg (by decide), hgp.1, hgp.2]
        · rw [setF_other _ _ _ _ e, setF_other _ _ _ _ e, setF_other _ _ _ _ e]; exact hc.view j g1 g2
      · have hh' : setF D1.hurt k false j = true := hh
        by_cases e : j = k
        · subst e; rw [setF_same] at hh'; cases hh'
        · rw [setF_other _ _ _ _ e] at hh' ⊢
          rw [d5] at hh'
          exact hc.hurt j g1 g2 hh'
      · show setF D1.safe k (putV r) j = _
        rw [setF_other _ _ _ _ hj, d4]
      · show setF D1.hurt k false j = _
        rw [setF_other _ _ _ _ hj, d5]
/-- Two recs, one behind the other. -/
theorem phases {D : Dv} {n : Int} {V : Int → Sl} {a b : Int} {r1 r2 : Rc} {F : Int} (hc : Calm D n V) (h0 : 0 ≤ n) (hf : D.fall = F) (hF : 0 ≤ F) (hd : D.down = false) (ha : 0 ≤ a ∧ a < n) (hb : 0 ≤ b ∧ b < n) (hab : a ≠ b) (u1 : Under D a r1) (u2 : Under D b r2) (f : Int) :
    let P := if (wrf [(a, r1)] D).1 = 0 then wrf [(b, r2)] (wrf [(a, r1)] D).2 else wrf [(a, r1)] D
    (P.1 = 0 ∨ P.1 = 5) ∧ ∃ V', Fine (crashD [f] P.2) n V' 0 ∧ (V' a = (1, r1) ∨ V' a = (2, Rc.zero) ∨ V' a = V a) ∧ (V' b = (1, r2) ∨ V' b = (2, Rc.zero) ∨ V' b = V b) ∧ (∀ k, k ≠ a → k ≠ b → V' k = V k) ∧ (P.1 = 0 → V' a = (1, r1)) := by
  intro P
  have p1 := phase hc hf hF hd ha.1 ha.2 u1.put
  generalize hw : wrf [(a, r1)] D = w1 at p1
  have eP : P = if w1.1 = 0 then wrf [(b, r2)] w1.2 else w1 := by show (if _ then _ else _) = _; rw [hw]
  rw [eP]
  clear eP P hw
  cases p1 with
  | none h1 h2 => exact ⟨.inr rfl, V, h1.crash h0 [f], .inr (.inr rfl), .inr (.inr rfl), fun _ _ _ => rfl, fun h => by cases h⟩
  | one h =>
    obtain ⟨s, hs, hfine⟩ := h.crash hc h0 u1 f
    refine ⟨.inr rfl, _, hfine, ?_, .inr (.inr (setF_other _ _ _ _ (fun e => hab e.symm))), fun k h1 h2 => setF_other _ _ _ _ h1, fun h => by cases h⟩
    rw [setF_same]
    rcases hs with rfl | rfl
    · exact .inl rfl
    · exact .inr (.inl rfl)
  | @done D1 h h1 h2 h3 h4 =>
    have u2' : Under D1 b r2 := ⟨by rw [(h4 b (fun e => hab e.symm)).1]; exact u2.safe, by rw [(h4 b (fun e => hab e.symm)).2]; exact u2.hurt, u2.put⟩
    rw [if_pos rfl]
    have p2 := phase h h2 (by omega) h3 hb.1 hb.2 u2.put
    generalize wrf [(b, r2)] D1 = w2 at p2
    cases p2 with
    | none g1 g2 =>
      refine ⟨.inr rfl, _, g1.crash h0 [f], .inl (setF_same _ _ _), .inr (.inr (setF_other _ _ _ _ (fun e => hab e.symm))), fun k k1 k2 => setF_other _ _ _ _ k1, fun h => by cases h⟩
    | one g =>
      obtain ⟨s, hs, hfine⟩ := g.crash h h0 u2' f
      refine ⟨.inr rfl, _, hfine, .inl (by rw [setF_other _ _ _ _ hab, setF_same]), ?_, fun k k1 k2 => by rw [setF_other _ _ _ _ k2, setF_other _ _ _ _ k1], fun h => by cases h⟩
      rw [setF_same]
      rcases hs with rfl | rfl
      · exact .inl rfl
      · exact .inr (.inl rfl)
    | done g g1 g2 g3 g4 =>
      refine ⟨.inl rfl, _, g.crash h0 [f], .inl (by rw [setF_other _ _ _ _ hab, setF_same]), .inl (setF_same _ _ _), fun k k1 k2 => by rw [setF_other _ _ _ _ k2, setF_other _ _ _ _ k1], fun _ => by rw [setF_other _ _ _ _ hab, setF_same]⟩
end Go.Proofs.Ytlnfigbcdmfmdaa
