/- Batches of recs, each made safe, where the power may fail: what is there behind it. No program in sight. -/
import Derived.Test.YtlnfigbcdmfmdaaMendLaw
namespace Go.Proofs.Ytlnfigbcdmfmdaa
set_option linter.unusedVariables false
set_option linter.unusedSimpArgs false

def enc (c : Int × Rc) : Int × List UInt8 := (c.1, putV c.2)
/-- A device all of whose writes are safe, that has power, and no block of which is lost. -/
structure Calm0 (D : Dv) (n : Int) (V : Int → Sl) : Prop where
  calm : Calm D n V
  down : D.down = false
  lost : ∀ k, D.lost k = false
/-- In working order besides. -/
structure Fine0 (D : Dv) (n : Int) (V : Int → Sl) : Prop where
  fine : Fine D n V 0
  lost : ∀ k, D.lost k = false
theorem Fine0.calm0 {D : Dv} {n : Int} {V : Int → Sl} (h : Fine0 D n V) : Calm0 D n V := ⟨h.fine.calm, h.fine.live.down, h.lost⟩
theorem Calm.fallD {D : Dv} {n : Int} {V : Int → Sl} (h : Calm D n V) (F : Int) : Calm (fallD F D) n V := h.like rfl rfl rfl rfl rfl
theorem Calm0.fallD {D : Dv} {n : Int} {V : Int → Sl} (h : Calm0 D n V) (F : Int) : Calm0 (fallD F D) n V := ⟨h.calm.fallD F, h.down, h.lost⟩
theorem Fine0.new (n : Int) (h0 : 0 ≤ n) (h1 : n ≤ 4096) : Fine0 (newD n) n (fun _ => (0, Rc.zero)) := ⟨Fine.new n h0 h1, fun _ => rfl⟩
theorem crashD_lost (fs : List Int) (D : Dv) : (crashD fs D).lost = D.lost := (crashD_size fs D).2.2.1
theorem Calm0.crash {D : Dv} {n : Int} {V : Int → Sl} (h : Calm0 D n V) (h0 : 0 ≤ n) (fs : List Int) : Fine0 (crashD fs D) n V := ⟨h.calm.crash h0 fs, fun k => by rw [crashD_lost]; exact h.lost k⟩

/-- Written in part: the first m of the recs l are under way. -/
structure Part (D D' : Dv) (l : List (Int × Rc)) : Prop where
  size : D'.size = D.size
  since : D'.since = D.since ++ l.map enc
  lost : ∀ k, D'.lost k = false
  safe : D'.safe = D.safe
  hurt : D'.hurt = D.hurt
theorem turnE_cases (D : Dv) : turnE D = 0 ∨ turnE D = 5 := by unfold turnE; split <;> simp
theorem turnD_down {D : Dv} (h : turnE D = 0) : (turnD D).down = false := by
  unfold turnE at h
  split at h
  · cases h
  · rename_i h1
    simp only [not_or, Bool.not_eq_true] at h1
    unfold turnD
    rw [if_neg (by simp [h1.1]), if_neg h1.2]
    split
    · exact h1.1
    · exact h1.1
theorem swrite_cases {D : Dv} {k : Int} {r : Rc} (h1 : 0 ≤ k) (h2 : k < D.size) (hp : putE r = 0) :
    (swE k r D = 0 ∧ swD k r D = addD k (putV r) (turnD D) ∧ turnE D = 0) ∨ (swE k r D = 5 ∧ swD k r D = turnD D) := by
  have hle := putV_le r
  unfold swE swD
  rw [if_pos hp, if_pos hp]
  rcases turnE_cases D with h | h
  · left
    have ew : writeE k (putV r) D = 0 := by unfold writeE; rw [h, if_neg (by decide), if_neg (by omega), if_neg (by omega)]
    exact ⟨ew, by unfold writeD; rw [if_pos ew], h⟩
  · right
    have ew : writeE k (putV r) D = 5 := by unfold writeE; rw [h, if_pos rfl]
    exact ⟨ew, by unfold writeD; rw [ew, if_neg (by decide)]⟩
theorem wrs_part : ∀ (l : List (Int × Rc)) {D : Dv}, D.down = false → (∀ k, D.lost k = false) → (∀ c ∈ l, 0 ≤ c.1 ∧ c.1 < D.size ∧ putE c.2 = 0) →
    ((wrs l D).1 = 0 ∧ (wrs l D).2.down = false ∧ Part D (wrs l D).2 l) ∨ ((wrs l D).1 = 5 ∧ ∃ m, Part D (wrs l D).2 (l.take m))
  | [], D, hd, hl, hi => .inl ⟨rfl, hd, ⟨rfl, by simp [wrs], hl, rfl, rfl⟩⟩
  | c :: l, D, hd, hl, hi => by
    obtain ⟨h1, h2, h3⟩ := hi c (by simp)
    obtain ⟨t1, t2, t3, t4, t5⟩ := turnD_same D
    rcases swrite_cases h1 h2 h3 with ⟨e1, e2, e3⟩ | ⟨e1, e2⟩
    · have hl1 : ∀ k, (swD c.1 c.2 D).lost k = false := by
        intro k
        rw [e2]
        show setF (turnD D).lost c.1 false k = false
        rw [t3]
        unfold setF
        split
        · rfl
        · exact hl k
      have hs1 : (swD c.1 c.2 D).size = D.size := by rw [e2]; exact t1
      have hsi : (swD c.1 c.2 D).since = D.since ++ [enc c] := by rw [e2]; show (turnD D).since ++ _ = _; rw [t2]; rfl
      have hsa : (swD c.1 c.2 D).safe = D.safe := by rw [e2]; exact t4
      have hhu : (swD c.1 c.2 D).hurt = D.hurt := by rw [e2]; exact t5
      have hdn : (swD c.1 c.2 D).down = false := by rw [e2]; exact turnD_down e3
      have ih := wrs_part l hdn hl1 (fun x hx => by rw [hs1]; exact hi x (by simp [hx]))
      rw [wrs, if_pos e1]
      rcases ih with ⟨i1, i2, i3⟩ | ⟨i1, m, i3⟩
      · exact .inl ⟨i1, i2, ⟨i3.size.trans hs1, by rw [i3.since, hsi]; simp, i3.lost, i3.safe.trans hsa, i3.hurt.trans hhu⟩⟩
      · exact .inr ⟨i1, m + 1, ⟨i3.size.trans hs1, by rw [i3.since, hsi]; simp, i3.lost, i3.safe.trans hsa, i3.hurt.trans hhu⟩⟩
    · rw [wrs, if_neg (by rw [e1]; decide)]
      refine .inr ⟨e1, 0, ?_⟩
      rw [e2]
      exact ⟨t1, by rw [t2]; simp, by rw [t3]; exact hl, t4, t5⟩
theorem lastW_enc : ∀ (l : List (Int × Rc)) (V : Int → Sl) (k : Int), (∀ c ∈ l, putE c.2 = 0) → putsV l V k = match lastW (l.map enc) k with | some s => (getS s, getR s) | none => V k
  | [], V, k, h => rfl
  | c :: l, V, k, h => by
    show putsV l (setF V c.1 (1, c.2)) k = _
    rw [lastW_enc l _ k (fun x hx => h x (by simp [hx]))]
    rw [List.map_cons, lastW]
    cases lastW (l.map enc) k with
    | some s => rfl
    | none =>
      have hc := get_put (h c (by simp))
      show setF V c.1 (1, c.2) k = match (if c.1 = k then some (putV c.2) else none) with | some s => (getS s, getR s) | none => V k
      by_cases e : c.1 = k
      · rw [if_pos e, ← e, setF_same]
        show (1, c.2) = (getS (putV c.2), getR (putV c.2))
        rw [hc.1, hc.2]
      · rw [if_neg e, setF_other _ _ _ _ (fun x => e x.symm)]
/-- One batch. -/
theorem wrf_part {l : List (Int × Rc)} {D : Dv} {n : Int} {V : Int → Sl} (h : Calm0 D n V) (hi : ∀ c ∈ l, 0 ≤ c.1 ∧ c.1 < n ∧ putE c.2 = 0) :
    ((wrf l D).1 = 0 ∧ Calm0 (wrf l D).2 n (putsV l V)) ∨ ((wrf l D).1 = 5 ∧ ∃ m, Part D (wrf l D).2 (l.take m)) := by
  rcases wrs_part l h.down h.lost (fun c hc => by rw [h.calm.size]; exact hi c hc) with ⟨e1, e2, e3⟩ | ⟨e1, m, e3⟩
  · unfold wrf
    rw [if_pos e1]
    generalize (wrs l D).2 = D1 at e2 e3
    obtain ⟨t1, t2, t3, t4, t5⟩ := turnD_same D1
    rcases turnE_cases D1 with ht | ht
    · left
      refine ⟨ht, ?_⟩
      have hf : flushD D1 = { putsD D1.since (turnD D1) with since := [] } := by unfold flushD; rw [ht, if_neg (by decide)]
      obtain ⟨p1, p2, p3, p4, p5⟩ := putsD_size D1.since (turnD D1)
      have hs : D1.since = l.map enc := by rw [e3.since, h.calm.since]; rfl
      simp only
      rw [hf]
      refine ⟨⟨by show (putsD D1.since (turnD D1)).size = n; rw [p1, t1, e3.size, h.calm.size], h.calm.big, rfl, fun k k1 k2 => ?_, fun k k1 k2 hh => ?_⟩, by show (putsD D1.since (turnD D1)).down = false; rw [p5]; exact turnD_down ht, fun k => by show (putsD D1.since (turnD D1)).lost k = false; rw [p3, t3]; exact e3.lost k⟩
      · show putsV l V k = slotv ((putsD D1.since (turnD D1)).lost k) ((putsD D1.since (turnD D1)).safe k)
        rw [p3, t3, e3.lost, putsD_safe, t4, e3.safe, hs, lastW_enc l V k (fun c hc => (hi c hc).2.2)]
        cases lastW (l.map enc) k with
        | some s => rfl
        | none =>
          show V k = slotv false (D.safe k)
          rw [h.calm.view k k1 k2, h.lost]
      · have hh' : (putsD D1.since (turnD D1)).hurt k = true := hh
        rw [putsD_hurt, t5, e3.hurt, hs] at hh'
        rw [lastW_enc l V k (fun c hc => (hi c hc).2.2)]
        cases hl : lastW (l.map enc) k with
        | some s => rw [hl] at hh'; cases hh'
        | none =>
          rw [hl] at hh'
          exact h.calm.hurt k k1 k2 hh'
    · right
      have hf : flushD D1 = turnD D1 := by unfold flushD; rw [ht, if_pos rfl]
      refine ⟨ht, l.length, ?_⟩
      simp only
      rw [hf, List.take_length]
      exact ⟨t1.trans e3.size, t2.trans e3.since, by rw [t3]; exact e3.lost, t4.trans e3.safe, t5.trans e3.hurt⟩
  · right
    unfold wrf
    rw [if_neg (by rw [e1]; decide)]
    exact ⟨e1, m, e3⟩
/-- A write's fate. -/
theorem Fine0.fate {B : Dv} {n : Int} {V : Int → Sl} (h : Fine0 B n V) (f k : Int) {r : Rc} (hp : putE r = 0) :
    ∃ V', Fine0 (fateD f (k, putV r) B) n V' ∧ ∀ j, V' j = V j ∨ (j = k ∧ (V' j = (1, r) ∨ V' j = (2, Rc.zero))) := by
  have hgp := get_put hp
  have hlen := putV_len hp
  have hs : B.since = [] := List.eq_nil_of_length_eq_zero (by have := h.fine.since; omega)
  have hcont : ∀ j, contD B j = B.safe j := fun j => by unfold contD; rw [hs]; rfl
  have hhurt : ∀ j, 0 ≤ j → j < n → B.hurt j = true → (V j).1 = 2 := fun j h1 h2 hh => by
    have := h.fine.hurt j h1 h2 hh
    rw [hs] at this
    exact this.resolve_right (fun h => h rfl)
  unfold fateD
  by_cases f1 : f = 1
  · rw [if_pos f1]
    refine ⟨setF V k (1, r), ⟨⟨⟨h.fine.live.fall, h.fine.live.down⟩, h.fine.size, h.fine.big, by show B.since.length ≤ 0; rw [hs]; simp, fun j h1 h2 => ?_, fun j h1 h2 hh => ?_⟩, h.lost⟩, fun j => ?_⟩
    · show setF V k (1, r) j = slotv (B.lost j) ((lastW B.since j).getD (setF B.safe k (putV r) j))
      rw [hs, h.lost]
      show setF V k (1, r) j = slotv false (setF B.safe k (putV r) j)
      by_cases e : j = k
      · subst e; rw [setF_same, setF_same, slotv, if_neg (by decide), hgp.1, hgp.2]
      · rw [setF_other _ _ _ _ e, setF_other _ _ _ _ e, h.fine.view j h1 h2, h.lost, hcont]
    · have hh' : setF B.hurt k false j = true := hh
      by_cases e : j = k
      · subst e; rw [setF_same] at hh'; cases hh'
      · rw [setF_other _ _ _ _ e] at hh' ⊢
        exact .inl (hhurt j h1 h2 hh')
    · by_cases e : j = k
      · exact .inr ⟨e, .inl (by rw [e, setF_same])⟩
      · exact .inl (setF_other _ _ _ _ e)
  · rw [if_neg f1]
    by_cases f2 : f = 2
    · rw [if_pos f2]
      have hb := torn_bad hp ((putV r).length / 2) (by omega) (by omega)
      refine ⟨setF V k (2, Rc.zero), ⟨⟨⟨h.fine.live.fall, h.fine.live.down⟩, h.fine.size, h.fine.big, by show B.since.length ≤ 0; rw [hs]; simp, fun j h1 h2 => ?_, fun j h1 h2 hh => ?_⟩, h.lost⟩, fun j => ?_⟩
      · show setF V k (2, Rc.zero) j = slotv (B.lost j) ((lastW B.since j).getD (setF B.safe k ((putV r).take ((putV r).length / 2)) j))
        rw [hs, h.lost]
        show setF V k (2, Rc.zero) j = slotv false (setF B.safe k ((putV r).take ((putV r).length / 2)) j)
        by_cases e : j = k
        · subst e; rw [setF_same, setF_same, slotv, if_neg (by decide), hb, getR_zero (by omega)]
        · rw [setF_other _ _ _ _ e, setF_other _ _ _ _ e, h.fine.view j h1 h2, h.lost, hcont]
      · by_cases e : j = k
        · rw [e, setF_same]; exact .inl rfl
        · have hh' : setF B.hurt k true j = true := hh
          rw [setF_other _ _ _ _ e] at hh'
          rw [setF_other _ _ _ _ e]
          exact .inl (hhurt j h1 h2 hh')
      · by_cases e : j = k
        · exact .inr ⟨e, .inr (by rw [e, setF_same])⟩
        · exact .inl (setF_other _ _ _ _ e)
    · rw [if_neg f2]
      exact ⟨V, h, fun j => .inl rfl⟩
/-- Of the blocks that a batch writes: what each may be. -/
def Mix (l : List (Int × Rc)) (V V' : Int → Sl) : Prop := ∀ j, V' j = V j ∨ ∃ c ∈ l, c.1 = j ∧ (V' j = (1, c.2) ∨ V' j = (2, Rc.zero))
theorem Mix.refl (l : List (Int × Rc)) (V : Int → Sl) : Mix l V V := fun _ => .inl rfl
theorem Mix.mono {l m : List (Int × Rc)} {V V' : Int → Sl} (h : Mix l V V') (hs : ∀ c ∈ l, c ∈ m) : Mix m V V' := fun j => (h j).imp id (fun ⟨c, h1, h2⟩ => ⟨c, hs c h1, h2⟩)
theorem Fine0.fates (fs : List Int) : ∀ (l : List (Int × Rc)) (i : Nat) {B : Dv} {n : Int} {V : Int → Sl}, Fine0 B n V → (∀ c ∈ l, putE c.2 = 0) → ∃ V', Fine0 (fatesD fs i (l.map enc) B) n V' ∧ Mix l V V'
  | [], i, B, n, V, h, hl => ⟨V, h, Mix.refl _ _⟩
  | c :: l, i, B, n, V, h, hl => by
    obtain ⟨V1, h1, h2⟩ := h.fate (fs.getD i 0) c.1 (hl c (by simp))
    obtain ⟨V2, h3, h4⟩ := Fine0.fates fs l (i + 1) h1 (fun x hx => hl x (by simp [hx]))
    refine ⟨V2, h3, fun j => ?_⟩
    rcases h4 j with h | ⟨x, hx, hj⟩
    · rw [h]
      rcases h2 j with h | ⟨e, h⟩
      · exact .inl h
      · exact .inr ⟨c, by simp, e.symm, h⟩
    · exact .inr ⟨x, by simp [hx], hj⟩
theorem Part.crash {D D' : Dv} {n : Int} {V : Int → Sl} {l : List (Int × Rc)} (h : Part D D' l) (hc : Calm0 D n V) (h0 : 0 ≤ n) (hl : ∀ c ∈ l, putE c.2 = 0) (fs : List Int) : ∃ V', Fine0 (crashD fs D') n V' ∧ Mix l V V' := by
  have hs : D'.since = l.map enc := by rw [h.since, hc.calm.since]; rfl
  have hb : Fine0 (bareD D') n V := by
    refine ⟨⟨⟨rfl, rfl⟩, by show min (max D'.size 0) 4096 = n; rw [h.size, hc.calm.size]; have := hc.calm.big; omega, hc.calm.big, by simp [bareD, newD], fun k h1 h2 => ?_, fun k h1 h2 hh => ?_⟩, h.lost⟩
    · show V k = slotv (D'.lost k) (D'.safe k)
      rw [h.lost, h.safe, hc.calm.view k h1 h2, hc.lost]
    · have hh' : D'.hurt k = true := hh
      rw [h.hurt] at hh'
      exact .inl (hc.calm.hurt k h1 h2 hh')
  unfold crashD
  rw [hs]
  exact Fine0.fates fs l 0 hb hl
/-- Batches, one behind the other. -/
def runs : List (List (Int × Rc)) → Dv → Int × Dv
  | [], D => (0, D)
  | l :: ls, D => if (wrf l D).1 = 0 then runs ls (wrf l D).2 else wrf l D
theorem runs_one (l : List (Int × Rc)) (D : Dv) : runs [l] D = wrf l D := by
  unfold runs
  split
  · rename_i h
    show (0, (wrf l D).2) = wrf l D
    rw [← h]
  · rfl
theorem runs_since : ∀ (ls : List (List (Int × Rc))) (D : Dv), (runs ls D).2.since.length ≤ D.since.length + ls.flatten.length
  | [], D => Nat.le_refl _
  | l :: ls, D => by
    have h := wrf_since l D
    rw [runs, List.flatten_cons, List.length_append]
    split
    · have := runs_since ls (wrf l D).2
      omega
    · omega
theorem Fine.runs : ∀ (ls : List (List (Int × Rc))) {D : Dv} {n : Int} {V : Int → Sl}, Fine D n V 0 → (∀ l ∈ ls, ∀ c ∈ l, 0 ≤ c.1 ∧ c.1 < n ∧ putE c.2 = 0) → (Go.Proofs.Ytlnfigbcdmfmdaa.runs ls D).1 = 0 ∧ Fine (Go.Proofs.Ytlnfigbcdmfmdaa.runs ls D).2 n (putsV ls.flatten V) 0
  | [], D, n, V, h, hl => ⟨rfl, h⟩
  | l :: ls, D, n, V, h, hl => by
    obtain ⟨e1, e2⟩ := h.wrf (hl l (by simp))
    rw [Go.Proofs.Ytlnfigbcdmfmdaa.runs, if_pos e1, List.flatten_cons]
    have := Fine.runs ls e2 (fun x hx => hl x (by simp [hx]))
    have e : putsV (l ++ ls.flatten) V = putsV ls.flatten (putsV l V) := by simp [putsV]
    rw [e]
    exact this
/-- The power fails, or it doesn't: some batches are whole, of one there is something. -/
theorem runs_crash : ∀ (ls : List (List (Int × Rc))) {D : Dv} {n : Int} {V : Int → Sl}, Calm0 D n V → 0 ≤ n → (∀ l ∈ ls, ∀ c ∈ l, 0 ≤ c.1 ∧ c.1 < n ∧ putE c.2 = 0) → ∀ fs : List Int,
    ((runs ls D).1 = 0 ∧ Calm0 (runs ls D).2 n (putsV ls.flatten V)) ∨ ((runs ls D).1 = 5 ∧ ∃ j, ∃ hj : j < ls.length, ∃ V', Fine0 (crashD fs (runs ls D).2) n V' ∧ Mix ls[j] (putsV (ls.take j).flatten V) V')
  | [], D, n, V, h, h0, hl, fs => .inl ⟨rfl, h⟩
  | l :: ls, D, n, V, h, h0, hl, fs => by
    have hl1 := hl l (by simp)
    rcases wrf_part h hl1 with ⟨e1, e2⟩ | ⟨e1, m, e2⟩
    · have ih := runs_crash ls e2 h0 (fun x hx => hl x (by simp [hx])) fs
      have e : putsV (l ++ ls.flatten) V = putsV ls.flatten (putsV l V) := by simp [putsV]
      rw [runs, if_pos e1, List.flatten_cons, e]
      rcases ih with h1 | ⟨h1, j, hj, V', h2, h3⟩
      · exact .inl h1
      · refine .inr ⟨h1, j + 1, by simpa using hj, V', h2, ?_⟩
        have e : putsV ((l :: ls).take (j + 1)).flatten V = putsV (ls.take j).flatten (putsV l V) := by simp [putsV]
        rw [e]
        exact h3
    · right
      rw [runs, if_neg (by rw [e1]; decide)]
      obtain ⟨V', h1, h2⟩ := e2.crash h h0 (fun c hc => (hl1 c (List.mem_of_mem_take hc)).2.2) fs
      exact ⟨e1, 0, by simp, V', h1, h2.mono (fun c hc => List.mem_of_mem_take hc)⟩
end Go.Proofs.Ytlnfigbcdmfmdaa
