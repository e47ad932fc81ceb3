/- A device in working order, seen as slots. No program in sight. -/
import Derived.Test.YtmjgbkepngeckaaTornLaw
namespace Go.Proofs.Ytmjgbkepngeckaa
set_option linter.unusedVariables false
set_option linter.unusedSimpArgs false

/-- A block as a slot: 0 empty, 1 good, 2 bad. -/
abbrev Sl := Int × Rc
def slotv (lost : Bool) (c : List UInt8) : Sl := if lost then (2, Rc.zero) else (getS c, getR c)
structure Fine (D : Dv) (n : Int) (V : Int → Sl) (s : Nat) : Prop where
  live : Live D
  size : D.size = n
  big : n ≤ 4096
  since : D.since.length ≤ s
  view : ∀ k, 0 ≤ k → k < n → V k = slotv (D.lost k) (contD D k)
  hurt : ∀ k, 0 ≤ k → k < n → D.hurt k = true → (V k).1 = 2 ∨ lastW D.since k ≠ none
theorem sr_live {D : Dv} (h : Live D) {k : Int} (h1 : 0 ≤ k) (h2 : k < D.size) : srE k D = 0 ∧ srS k D = (slotv (D.lost k) (contD D k)).1 ∧ srR k D = (slotv (D.lost k) (contD D k)).2 := by
  have e : readE k D = if D.lost k = true then 6 else 0 := by unfold readE; rw [h.down, if_neg (by decide), if_neg (by omega)]
  unfold slotv
  cases hl : D.lost k with
  | true =>
    rw [hl, if_pos rfl] at e
    exact ⟨by rw [srE, e]; rfl, by rw [srS, e]; rfl, by rw [srR, e]; rfl⟩
  | false =>
    rw [hl, if_neg (by decide)] at e
    have hv : readV k D = contD D k := by rw [readV, if_pos e]
    exact ⟨by rw [srE, e]; rfl, by rw [srS, e, hv]; rfl, by rw [srR, e, hv]; rfl⟩
theorem Fine.read {D : Dv} {n : Int} {V : Int → Sl} {s : Nat} (h : Fine D n V s) {k : Int} (h1 : 0 ≤ k) (h2 : k < n) : srE k D = 0 ∧ srS k D = (V k).1 ∧ srR k D = (V k).2 := by
  rw [h.view k h1 h2]
  exact sr_live h.live h1 (by rw [h.size]; exact h2)
theorem Fine.turnE {D : Dv} {n : Int} {V : Int → Sl} {s : Nat} (h : Fine D n V s) : turnE D = 0 := h.live.turnE
theorem Fine.new (n : Int) (h0 : 0 ≤ n) (h1 : n ≤ 4096) : Fine (newD n) n (fun _ => (0, Rc.zero)) 0 :=
  ⟨Live.new n, by show min (max n 0) 4096 = n; omega, h1, Nat.le_refl _, fun k _ _ => rfl, fun k _ _ h => (by cases h)⟩
theorem contD_add (D : Dv) (b : Int) (c : List UInt8) (k : Int) : contD (addD b c D) k = if k = b then c else contD D k := by
  unfold contD
  have e : (addD b c D).since = D.since ++ [(b, c)] := rfl
  rw [e, lastW_snoc]
  by_cases hk : k = b
  · rw [if_pos hk.symm, if_pos hk]; rfl
  · rw [if_neg (fun h => hk h.symm), if_neg hk]; rfl
theorem Fine.add {D : Dv} {n : Int} {V : Int → Sl} {s : Nat} (h : Fine D n V s) (b : Int) (c : List UInt8) : Fine (addD b c D) n (setF V b (getS c, getR c)) (s + 1) := by
  refine ⟨h.live.add b c, h.size, h.big, ?_, fun k h1 h2 => ?_, fun k h1 h2 hh => ?_⟩
  · show (D.since ++ [(b, c)]).length ≤ s + 1
    have := h.since
    rw [List.length_append]; simp; omega
  · rw [contD_add]
    show setF V b _ k = slotv (setF D.lost b false k) _
    by_cases hk : k = b
    · subst hk; rw [setF_same, setF_same, if_pos rfl]; rfl
    · rw [setF_other _ _ _ _ hk, setF_other _ _ _ _ hk, if_neg hk]; exact h.view k h1 h2
  · have e : (addD b c D).since = D.since ++ [(b, c)] := rfl
    rw [e, lastW_snoc]
    by_cases hk : k = b
    · right
      rw [if_pos hk.symm]
      simp
    · rw [setF_other _ _ _ _ hk, if_neg (fun h => hk h.symm)]
      exact h.hurt k h1 h2 hh
theorem Fine.write {D : Dv} {n : Int} {V : Int → Sl} {s : Nat} (h : Fine D n V s) {k : Int} {r : Rc} (h1 : 0 ≤ k) (h2 : k < n) (hr : putE r = 0) : swE k r D = 0 ∧ Fine (swD k r D) n (setF V k (1, r)) (s + 1) := by
  refine ⟨by rw [swE_zero h.turnE h1 (by rw [h.size]; exact h2)]; exact hr, ?_⟩
  rw [h.live.swD h1 (by rw [h.size]; exact h2) hr]
  have := h.add k (putV r)
  rw [(get_put hr).1, (get_put hr).2] at this
  exact this
theorem Fine.wipe {D : Dv} {n : Int} {V : Int → Sl} {s : Nat} (h : Fine D n V s) {k : Int} (h1 : 0 ≤ k) (h2 : k < n) : writeE k [] D = 0 ∧ Fine (writeD k [] D) n (setF V k (0, Rc.zero)) (s + 1) := by
  have e : writeE k [] D = 0 := writeE_zero h.turnE h1 (by rw [h.size]; exact h2) (by simp)
  refine ⟨e, ?_⟩
  rw [writeD, if_pos e, h.live.turnD]
  exact h.add k []
theorem putsD_safe : ∀ (l : List (Int × List UInt8)) (D : Dv) (k : Int), (putsD l D).safe k = (lastW l k).getD (D.safe k)
  | [], _, _ => rfl
  | c :: l, D, k => by
    show (putsD l (putD c.1 c.2 D)).safe k = _
    rw [putsD_safe l, lastW]
    cases lastW l k with
    | some t => rfl
    | none =>
      show setF D.safe c.1 c.2 k = (if c.1 = k then some c.2 else none).getD (D.safe k)
      by_cases hk : k = c.1
      · rw [hk, setF_same, if_pos rfl]; rfl
      · rw [setF_other _ _ _ _ hk, if_neg (fun h => hk h.symm)]; rfl
theorem putsD_hurt : ∀ (l : List (Int × List UInt8)) (D : Dv) (k : Int), (putsD l D).hurt k = match lastW l k with | some _ => false | none => D.hurt k
  | [], _, _ => rfl
  | c :: l, D, k => by
    show (putsD l (putD c.1 c.2 D)).hurt k = _
    rw [putsD_hurt l, lastW]
    cases lastW l k with
    | some t => rfl
    | none =>
      show setF D.hurt c.1 false k = _
      by_cases hk : k = c.1
      · rw [hk, setF_same, if_pos rfl]
      · rw [setF_other _ _ _ _ hk, if_neg (fun h => hk h.symm)]
theorem Fine.flush {D : Dv} {n : Int} {V : Int → Sl} {s : Nat} (h : Fine D n V s) : Fine (flushD D) n V 0 := by
  rw [h.live.flushD]
  obtain ⟨g1, g2, g3, g4, g5⟩ := putsD_size D.since D
  refine ⟨⟨by show (putsD D.since D).fall = -1; rw [g4]; exact h.live.fall, by show (putsD D.since D).down = false; rw [g5]; exact h.live.down⟩, by show (putsD D.since D).size = n; rw [g1]; exact h.size, h.big, by simp, fun k h1 h2 => ?_, fun k h1 h2 hh => ?_⟩
  · rw [h.view k h1 h2]
    show slotv (D.lost k) (contD D k) = slotv ((putsD D.since D).lost k) ((putsD D.since D).safe k)
    rw [g3, putsD_safe]
    rfl
  · have hh' : (putsD D.since D).hurt k = true := hh
    rw [putsD_hurt] at hh'
    cases hl : lastW D.since k with
    | some t => rw [hl] at hh'; cases hh'
    | none =>
      rw [hl] at hh'
      rcases h.hurt k h1 h2 hh' with h3 | h3
      · exact .inl h3
      · exact absurd hl h3
theorem Fine.crash {D : Dv} {n : Int} {V : Int → Sl} (h : Fine D n V 0) (h0 : 0 ≤ n) (fs : List Int) : Fine (crashD fs D) n V 0 := by
  have hs : D.since = [] := List.eq_nil_of_length_eq_zero (by have := h.since; omega)
  have e : crashD fs D = bareD D := by unfold crashD; rw [hs]; rfl
  rw [e]
  refine ⟨⟨rfl, rfl⟩, by show min (max D.size 0) 4096 = n; rw [h.size]; have := h.big; omega, h.big, by simp [bareD, newD], fun k h1 h2 => ?_, fun k h1 h2 hh => ?_⟩
  · rw [h.view k h1 h2]
    unfold contD
    rw [hs]
    rfl
  · have := h.hurt k h1 h2 hh
    rw [hs] at this
    exact this
theorem Fine.lose {D : Dv} {n : Int} {V : Int → Sl} {s : Nat} (h : Fine D n V s) {b : Int} (h1 : 0 ≤ b) (h2 : b < n) : Fine (loseD b D) n (setF V b (2, Rc.zero)) s := by
  rw [loseD, if_pos ⟨h1, by rw [h.size]; exact h2⟩]
  refine ⟨⟨h.live.fall, h.live.down⟩, h.size, h.big, h.since, fun k g1 g2 => ?_, fun k g1 g2 hh => ?_⟩
  · show setF V b _ k = slotv (setF D.lost b true k) (contD D k)
    by_cases hk : k = b
    · subst hk; rw [setF_same, setF_same]; rfl
    · rw [setF_other _ _ _ _ hk, setF_other _ _ _ _ hk]; exact h.view k g1 g2
  · by_cases hk : k = b
    · rw [hk, setF_same]; exact .inl rfl
    · rw [setF_other _ _ _ _ hk]; exact h.hurt k g1 g2 hh
theorem Fine.more {D : Dv} {n : Int} {V : Int → Sl} {s t : Nat} (h : Fine D n V s) (hst : s ≤ t) : Fine D n V t := ⟨h.live, h.size, h.big, Nat.le_trans h.since hst, h.view, h.hurt⟩
theorem Fine.sound {D : Dv} {n : Int} {V : Int → Sl} {s : Nat} (h : Fine D n V s) {k : Int} (h1 : 0 ≤ k) (h2 : k < n) : ((V k).1 = 0 ∨ (V k).1 = 1 ∨ (V k).1 = 2) ∧ ((V k).1 = 1 → putE (V k).2 = 0) ∧ ((V k).1 ≠ 1 → (V k).2 = Rc.zero) := by
  rw [h.view k h1 h2]
  unfold slotv
  cases D.lost k with
  | true => simp
  | false =>
    simp only [Bool.false_eq_true, if_false]
    exact ⟨getS_cases _, fun h => (put_get h).1, fun h => getR_zero h⟩
/-- A good block, a byte of it turned. -/
theorem Fine.flip {D : Dv} {n : Int} {V : Int → Sl} (h : Fine D n V 0) {b : Int} (h1 : 0 ≤ b) (h2 : b < n) (hg : (V b).1 = 1) (at_ : Int) {c : UInt8} (hc : c ≠ 0) : Fine (flipD b at_ c D) n (setF V b (2, Rc.zero)) 0 := by
  have hs : D.since = [] := List.eq_nil_of_length_eq_zero (by have := h.since; omega)
  have hcont : ∀ k, contD D k = D.safe k := fun k => by unfold contD; rw [hs]; rfl
  have hv := h.view b h1 h2
  have hl : D.lost b = false := by
    cases hl : D.lost b with
    | false => rfl
    | true => rw [hv, hl] at hg; exact absurd hg (by simp [slotv])
  rw [hl, hcont] at hv
  have hgs : getS (D.safe b) = 1 := by rw [hv] at hg; exact hg
  obtain ⟨p1, p2⟩ := put_get hgs
  have hlen := putV_len p1
  have hne : D.safe b ≠ [] := fun e => by rw [← p2] at e; rw [e] at hlen; simp at hlen
  have hh : D.hurt b = false := by
    cases hh : D.hurt b with
    | false => rfl
    | true =>
      rcases h.hurt b h1 h2 hh with h3 | h3
      · omega
      · rw [hs] at h3; exact absurd rfl h3
  have hfl : getS (flipL (D.safe b) at_ c) = 2 := by
    unfold flipL
    rw [← p2]
    exact flip_bad p1 _ (Nat.mod_lt _ (by omega)) c hc
  rw [flipD, if_pos ⟨h1, by rw [h.size]; exact h2, hne, hc, hh⟩]
  refine ⟨⟨h.live.fall, h.live.down⟩, h.size, h.big, h.since, fun k g1 g2 => ?_, fun k g1 g2 hk => ?_⟩
  · show setF V b (2, Rc.zero) k = slotv (D.lost k) ((lastW D.since k).getD (setF D.safe b (flipL (D.safe b) at_ c) k))
    rw [hs]
    show setF V b (2, Rc.zero) k = slotv (D.lost k) (setF D.safe b (flipL (D.safe b) at_ c) k)
    by_cases hk : k = b
    · subst hk
      rw [setF_same, setF_same, hl, slotv, if_neg (by decide), hfl, getR_zero (by omega)]
    · rw [setF_other _ _ _ _ hk, setF_other _ _ _ _ hk, h.view k g1 g2, hcont]
  · by_cases hkb : k = b
    · rw [hkb, setF_same]; exact .inl rfl
    · rw [setF_other _ _ _ _ hkb]
      have hk' : setF D.hurt b true k = true := hk
      rw [setF_other _ _ _ _ hkb] at hk'
      exact h.hurt k g1 g2 hk'
/-- A block of no use to flip, or no bits. -/
theorem Fine.flip0 {D : Dv} {n : Int} {V : Int → Sl} {s : Nat} (h : Fine D n V s) (b at_ : Int) : flipD b at_ 0 D = D := by
  rw [flipD, if_neg (fun hh => hh.2.2.2.1 rfl)]
end Go.Proofs.Ytmjgbkepngeckaa
