/- Plain law of package plog: what stands on the device, what is read of it. Plain law of package plog: a log whose entries are all there. Plain law of package plog: damage. -/
import Derived.Test.YtmjgbkepngeckaaPq3
namespace Go.Proofs.Ytmjgbkepngeckaa
open Go.RowKit
set_option linter.unusedVariables false
set_option linter.unusedSimpArgs false

/-- An entry's block, and its mark's. -/
def entS (e : Ent) : Sl := (1, ⟨2, e.idx, e.term, e.data⟩)
def markS (e : Ent) : Sl := (1, ⟨3, e.idx, e.term, []⟩)
def badS : Sl := (2, Rc.zero)
/-- A place that is empty, or holds an older entry. -/
def Free (i : Int) (s : Sl) : Prop := s.1 = 0 ∨ (s.1 = 1 ∧ s.2.idx < i)
/-- Entries on a device, some of their blocks bad. -/
structure LaidE (L : Lg) (V : Int → Sl) (all : List Ent) (eb mb : Int → Bool) : Prop where
  pos : 0 < L.size
  len : (all.length : Int) ≤ L.size
  idx : ∀ (k : Nat) (hk : k < all.length), all[k].idx = L.first + k
  there : ∀ (k : Nat) (hk : k < all.length), V (L.a (L.first + k)) = (if eb (L.first + k) = true then badS else entS all[k]) ∧ V (L.b (L.first + k)) = (if mb (L.first + k) = true then badS else markS all[k])
/-- Behind them the places are free. -/
def Open9 (L : Lg) (V : Int → Sl) (N : Int) : Prop := ∀ i, L.first + N ≤ i → i < L.first + L.size → Free i (V (L.a i)) ∧ Free i (V (L.b i))
theorem free_look {L : Lg} {V : Int → Sl} {i : Int} (h : Free i (V (L.a i))) : (L.look V i).2 = 0 := by
  unfold Lg.look lookP
  rw [if_neg, if_pos]
  · rcases h with h | h
    · rw [h]; decide
    · rw [h.1]; decide
  · rintro ⟨h1, h2, h3⟩
    rcases h with h | h
    · omega
    · omega
theorem free_clean {i : Int} {s : Sl} (h : Free i s) : cleanS i s = s := if_pos h
theorem ent_look {L : Lg} {V : Int → Sl} {e : Ent} (ha : V (L.a e.idx) = entS e) : L.look V e.idx = (e, 1) := by
  unfold Lg.look lookP
  rw [ha, if_pos ⟨rfl, rfl, rfl⟩]
  rfl
theorem mark_look {L : Lg} {V : Int → Sl} {e : Ent} (ha : V (L.a e.idx) = badS) (hb : V (L.b e.idx) = markS e) : L.look V e.idx = (⟨e.idx, e.term, []⟩, 2) := by
  unfold Lg.look lookP
  rw [ha, hb, if_neg (fun h => absurd h.1 (by decide)), if_neg (fun h => h rfl), if_pos ⟨rfl, rfl, rfl⟩]
  rfl
theorem bad_look {L : Lg} {V : Int → Sl} {i : Int} (ha : V (L.a i) = badS) (hb : V (L.b i) = badS) : L.look V i = (⟨i, 0, []⟩, 3) := by
  unfold Lg.look lookP
  rw [ha, hb, if_neg (fun h => absurd h.1 (by decide)), if_neg (fun h => h rfl), if_neg (fun h => absurd h.1 (by decide)), if_pos (by rfl)]
/-- What an entry's place tells. -/
def tells (e : Ent) (eb mb : Bool) : Ent × Int := if eb = false then (e, 1) else if mb = false then (⟨e.idx, e.term, []⟩, 2) else (⟨e.idx, 0, []⟩, 3)
theorem LaidE.look {L : Lg} {V : Int → Sl} {all : List Ent} {eb mb : Int → Bool} (h : LaidE L V all eb mb) (k : Nat) (hk : k < all.length) : L.look V (L.first + k) = tells all[k] (eb (L.first + k)) (mb (L.first + k)) := by
  obtain ⟨h1, h2⟩ := h.there k hk
  have hi := h.idx k hk
  unfold tells
  rw [← hi] at h1 h2 ⊢
  cases he : eb all[k].idx with
  | false => rw [he, if_neg (by decide)] at h1; rw [if_pos rfl]; exact ent_look h1
  | true =>
    rw [he, if_pos rfl] at h1
    rw [if_neg (by decide)]
    cases hm : mb all[k].idx with
    | false => rw [hm, if_neg (by decide)] at h2; rw [if_pos rfl]; exact mark_look h1 h2
    | true => rw [hm, if_pos rfl] at h2; rw [if_neg (by decide)]; exact bad_look h1 h2
theorem tells_ne (e : Ent) (eb mb : Bool) : (tells e eb mb).2 ≠ 0 := by
  cases eb <;> cases mb <;> simp [tells]
/-- How long a log is, opened. -/
theorem scan_len {V : Int → Sl} {L : Lg} (hs : Scan V L) (hend : (L.terms.length : Int) = L.size ∨ (L.look V (L.first + L.terms.length)).2 = 0) (hl : (L.terms.length : Int) ≤ L.size) {N : Nat} (hN : (N : Int) ≤ L.size)
    (h1 : ∀ k : Nat, k < N → (L.look V (L.first + k)).2 ≠ 0) (h2 : (N : Int) = L.size ∨ (L.look V (L.first + N)).2 = 0) : L.terms.length = N := by
  rcases Nat.lt_trichotomy L.terms.length N with h | h | h
  · rcases hend with h3 | h3
    · omega
    · exact absurd h3 (h1 _ h)
  · exact h
  · rcases h2 with h3 | h3
    · omega
    · exact absurd h3 (hs.there N h).1
/-- The log that is opened on them. -/
def termOf (e : Ent) (eb mb : Bool) : Int := if eb = true ∧ mb = true then 0 else e.term
theorem tells_term (e : Ent) (eb mb : Bool) : (tells e eb mb).1.term = termOf e eb mb := by cases eb <;> cases mb <;> simp [tells, termOf]
theorem tells_good (e : Ent) (eb mb : Bool) : (tells e eb mb).2 ≠ 1 ↔ eb = true := by cases eb <;> cases mb <;> simp [tells]
structure Opened (L : Lg) (all : List Ent) (eb mb : Int → Bool) : Prop where
  len : L.terms.length = all.length
  term : ∀ (k : Nat) (hk : k < all.length), L.terms[k]? = some (termOf all[k] (eb (L.first + k)) (mb (L.first + k)))
  hurt : ∀ i, L.hurt i = decide (L.first ≤ i ∧ i < L.first + all.length ∧ eb i = true)
theorem LaidE.opened {V : Int → Sl} {L : Lg} {all : List Ent} {eb mb : Int → Bool} (h : LaidE L V all eb mb) (hs : Scan V L) (hend : (L.terms.length : Int) = L.size ∨ (L.look V (L.first + L.terms.length)).2 = 0) (hl : (L.terms.length : Int) ≤ L.size)
    (h2 : (all.length : Int) = L.size ∨ (L.look V (L.first + all.length)).2 = 0) : Opened L all eb mb := by
  have hlen := scan_len hs hend hl h.len (fun k hk => by rw [h.look k hk]; exact tells_ne _ _ _) h2
  refine ⟨hlen, fun k hk => ?_, fun i => ?_⟩
  · rw [(hs.there k (by omega)).2, h.look k hk, tells_term]
  · rw [hs.hurt i, decide_eq_decide, hlen]
    constructor
    · rintro ⟨h3, h4, h5⟩
      obtain ⟨k, hk⟩ : ∃ k : Nat, i = L.first + (k : Int) := ⟨(i - L.first).toNat, by omega⟩
      subst hk
      rw [h.look k (by omega)] at h5
      exact ⟨h3, h4, (tells_good _ _ _).1 h5⟩
    · rintro ⟨h3, h4, h5⟩
      refine ⟨h3, h4, ?_⟩
      obtain ⟨k, hk⟩ : ∃ k : Nat, i = L.first + (k : Int) := ⟨(i - L.first).toNat, by omega⟩
      subst hk
      rw [h.look k (by omega)]
      exact (tells_good _ _ _).2 h5
/-- Marks written again. -/
theorem LaidE.remark {V V' : Int → Sl} {L : Lg} {all : List Ent} {eb mb : Int → Bool} (h : LaidE L V all eb mb) (ho : Opened L all eb mb) (hab : ∀ i, L.a i < L.base + L.size ∧ L.base + L.size ≤ L.b i) (hr : RemarkIs L V V' L.terms.length) :
    LaidE L V' all eb (fun i => mb i && eb i) := by
  refine ⟨h.pos, h.len, h.idx, fun k hk => ?_⟩
  obtain ⟨h1, h2⟩ := h.there k hk
  have hh := ho.hurt (L.first + k)
  refine ⟨?_, ?_⟩
  · rw [hr.other _ (fun j _ _ e => ?_)]
    · exact h1
    · have := hab (L.first + k); have := hab (L.first + j); omega
  · cases he : eb (L.first + k) with
    | false =>
      have hf : L.hurt (L.first + k) = false := by rw [hh, decide_eq_false_iff_not]; rintro ⟨_, _, h5⟩; rw [he] at h5; cases h5
      rw [hr.done k (by rw [ho.len]; exact hk) hf]
      have ht := ho.term k hk
      rw [he] at ht
      have ht2 : L.terms.getD k 0 = all[k].term := by rw [List.getD_eq_getElem?_getD, ht]; rfl
      rw [ht2, Bool.and_false, if_neg (by decide), markS, h.idx k hk]
    | true =>
      rw [Bool.and_true]
      rw [hr.other _ (fun j hj hf e => ?_)]
      · exact h2
      · by_cases hjk : j = k
        · subst hjk
          rw [hh, decide_eq_false_iff_not] at hf
          exact hf ⟨by omega, by omega, he⟩
        · have hl := h.len
          have hjl : j < all.length := by rw [← ho.len]; exact hj
          rcases Nat.lt_or_gt_of_ne hjk with h6 | h6
          · exact Lg.b_ne h.pos (show L.first + (j : Int) < L.first + k by omega) (by omega) e.symm
          · exact Lg.b_ne h.pos (show L.first + (k : Int) < L.first + j by omega) (by omega) e
theorem RemarkIs.open9 {V V' : Int → Sl} {L : Lg} {N : Int} (ho : Open9 L V N) (hN : (L.terms.length : Int) = N) (hs : 0 < L.size) (hab : ∀ i, L.a i < L.base + L.size ∧ L.base + L.size ≤ L.b i) (hr : RemarkIs L V V' L.terms.length) : Open9 L V' N := by
  intro i h1 h2
  obtain ⟨g1, g2⟩ := ho i h1 h2
  rw [hr.other _ (fun j _ _ e => ?_), hr.other (L.b i) (fun j hj _ e => ?_)]
  · exact ⟨g1, g2⟩
  · exact Lg.b_ne hs (show L.first + (j : Int) < i by omega) (by omega) e.symm
  · have := hab i; have := hab (L.first + j); omega
theorem CleanIs.none {pl : Int → Int} {lo hi : Int} {V V' : Int → Sl} (h : CleanIs pl lo hi V V') (hf : ∀ i, lo ≤ i → i < hi → Free i (V (pl i))) : V' = V := by
  funext k
  by_cases hk : ∃ i, lo ≤ i ∧ i < hi ∧ k = pl i
  · obtain ⟨i, h1, h2, rfl⟩ := hk
    rw [h.done i h1 h2, free_clean (hf i h1 h2)]
  · exact h.other k fun i h1 h2 e => hk ⟨i, h1, h2, e⟩
theorem CleanP.none {L : Lg} {lo : Int} {V V' : Int → Sl} (h : CleanP L lo 2 V V') (hf : ∀ i, lo ≤ i → i < L.first + L.size → Free i (V (L.a i)) ∧ Free i (V (L.b i))) : V' = V := by
  obtain ⟨V1, h1, h2⟩ := h
  have e1 := h1.none (fun i a b => (hf i a b).2)
  subst e1
  exact h2.none (fun i a b => (hf i a b).1)
/-- Opened on entries, free places behind them. -/
theorem open_law {V V1 V2 : Int → Sl} {L : Lg} {all : List Ent} {eb mb : Int → Bool} {n : Int} (hok : LgOk L n) (h : LaidE L V all eb mb) (hf : Open9 L V all.length) (hs : Scan V L)
    (hend : (L.terms.length : Int) = L.size ∨ (L.look V (L.first + L.terms.length)).2 = 0) (hr : RemarkIs L V V1 L.terms.length) (hc : CleanP L (L.first + L.terms.length) 2 V1 V2) :
    Opened L all eb mb ∧ LaidE L V2 all eb (fun i => mb i && eb i) ∧ Open9 L V2 all.length := by
  have hab : ∀ i, L.a i < L.base + L.size ∧ L.base + L.size ≤ L.b i := fun i => (hok.ab i).2.2.2.2
  have h2 : (all.length : Int) = L.size ∨ (L.look V (L.first + all.length)).2 = 0 := by
    by_cases e : (all.length : Int) = L.size
    · exact .inl e
    · have := h.len
      exact .inr (free_look (hf _ (Int.le_refl _) (by omega)).1)
  have ho := h.opened hs hend hok.len h2
  have hl1 := h.remark ho hab hr
  have hf1 := RemarkIs.open9 hf (by rw [ho.len]) h.pos hab hr
  have e2 : V2 = V1 := hc.none (fun i a b => hf1 i (by rw [ho.len] at a; exact a) b)
  subst e2
  exact ⟨ho, hl1, hf1⟩
end Go.Proofs.Ytmjgbkepngeckaa
namespace Go.Proofs.Ytmjgbkepngeckaa
open Go.RowKit
set_option linter.unusedVariables false
set_option linter.unusedSimpArgs false

def noBad : Int → Bool := fun _ => false
structure Solid (L : Lg) (V : Int → Sl) (all : List Ent) : Prop where
  laid : LaidE L V all noBad noBad
  free : Open9 L V all.length
  terms : L.terms = all.map (·.term)
  hurt : ∀ i, L.hurt i = false
theorem Solid.len {L : Lg} {V : Int → Sl} {all : List Ent} (h : Solid L V all) : L.terms.length = all.length := by rw [h.terms, List.length_map]
theorem Solid.last {L : Lg} {V : Int → Sl} {all : List Ent} (h : Solid L V all) : L.last = L.first + all.length - 1 := by unfold Lg.last; rw [h.len]
theorem Solid.nil {L : Lg} {V : Int → Sl} (hs : 0 < L.size) (ht : L.terms = []) (hh : ∀ i, L.hurt i = false) (hV : ∀ i, (V (L.a i)).1 = 0 ∧ (V (L.b i)).1 = 0) : Solid L V [] :=
  ⟨⟨hs, by show (0 : Int) ≤ L.size; omega, fun k hk => absurd hk (by simp), fun k hk => absurd hk (by simp)⟩, fun i _ _ => ⟨.inl (hV i).1, .inl (hV i).2⟩, ht, hh⟩
theorem Solid.at {L : Lg} {V : Int → Sl} {all : List Ent} (h : Solid L V all) (k : Nat) (hk : k < all.length) : V (L.a (L.first + k)) = entS all[k] ∧ V (L.b (L.first + k)) = markS all[k] := by
  have := h.laid.there k hk
  simpa [noBad] using this
theorem Solid.term {L : Lg} {V : Int → Sl} {all : List Ent} (h : Solid L V all) (k : Nat) (hk : k < all.length) : L.term (L.first + k) = all[k].term := by
  unfold Lg.term
  have hl := h.last
  rw [if_neg (by omega), h.terms]
  have e : (L.first + (k : Int) - L.first).toNat = k := by omega
  rw [e, List.getD_eq_getElem?_getD, List.getElem?_map, List.getElem?_eq_getElem hk]
  rfl
theorem Solid.term0 {L : Lg} {V : Int → Sl} {all : List Ent} (h : Solid L V all) : L.term (L.first + all.length) = 0 := by
  unfold Lg.term
  have hl := h.last
  rw [if_pos (by omega)]
theorem Solid.read {L : Lg} {V : Int → Sl} {all : List Ent} (h : Solid L V all) (k : Nat) (hk : k < all.length) : L.readA V (L.first + k) = (all[k], 1) ∧ L.readL V (L.first + k) = L := by
  have hl := h.last
  have hlk : L.look V (L.first + k) = (all[k], 1) := by rw [h.laid.look k hk]; rfl
  have hg : L.good V (L.first + k) := ⟨by rw [hlk], .inr (by rw [hlk, h.term k hk])⟩
  have hn : ¬ (L.first + (k : Int) < L.first ∨ L.last < L.first + k) := by omega
  unfold Lg.readA Lg.readL
  rw [if_neg hn, if_neg hn, if_pos hg, if_pos hg, hlk]
  exact ⟨rfl, rfl⟩
theorem read_out {L : Lg} {V : Int → Sl} {i : Int} (h : i < L.first ∨ L.last < i) : L.readA V i = (Ent.zero, 0) ∧ L.readL V i = L := ⟨if_pos h, if_pos h⟩
theorem Solid.isHurt {L : Lg} {V : Int → Sl} {all : List Ent} (h : Solid L V all) : HurtIs L.hurt 0 := .inl ⟨rfl, h.hurt⟩
/-- Opened again. -/
theorem Solid.again {V V1 V2 : Int → Sl} {L0 L : Lg} {all : List Ent} {n : Int} (h : Solid L0 V all) (hok : LgOk L n) (hb : L.base = L0.base) (hz : L.size = L0.size) (hf : L.first = L0.first) (hs : Scan V L)
    (hend : (L.terms.length : Int) = L.size ∨ (L.look V (L.first + L.terms.length)).2 = 0) (hr : RemarkIs L V V1 L.terms.length) (hc : CleanP L (L.first + L.terms.length) 2 V1 V2) : Solid L V2 all := by
  have ea : L.a = L0.a := by funext i; unfold Lg.a; rw [hb, hz]
  have eb : L.b = L0.b := by funext i; unfold Lg.b; rw [hb, hz]
  have hl : LaidE L V all noBad noBad := ⟨by rw [hz]; exact h.laid.pos, by rw [hz]; exact h.laid.len, by rw [hf]; exact h.laid.idx, by rw [ea, eb, hf]; exact h.laid.there⟩
  have ho : Open9 L V all.length := by unfold Open9; rw [ea, eb, hf, hz]; exact h.free
  obtain ⟨r1, r2, r3⟩ := open_law hok hl ho hs hend hr hc
  refine ⟨r2, r3, ?_, fun i => ?_⟩
  · apply List.ext_getElem?
    intro k
    by_cases hk : k < all.length
    · rw [r1.term k hk, List.getElem?_map, List.getElem?_eq_getElem hk]
      rfl
    · rw [List.getElem?_eq_none (by rw [r1.len]; omega), List.getElem?_eq_none (by rw [List.length_map]; omega)]
  · rw [r1.hurt i, decide_eq_false_iff_not]
    rintro ⟨_, _, h3⟩
    cases h3
/-- What put leaves of a place. -/
theorem putV2_out {L : Lg} {es : List Ent} {V : Int → Sl} {n : Int} (hok : LgOk L n) (i : Int) (h : ∀ e ∈ es, L.a e.idx ≠ L.a i) : putV2 L es V (L.a i) = V (L.a i) ∧ putV2 L es V (L.b i) = V (L.b i) := by
  have hi := hok.ab i
  unfold putV2
  refine ⟨?_, ?_⟩
  · rw [putsV_out _ _ _ (fun c hc => ?_), putsV_out _ _ _ (fun c hc => ?_)]
    · obtain ⟨e, he, rfl⟩ := List.mem_map.1 hc
      exact h e he
    · obtain ⟨e, he, rfl⟩ := List.mem_map.1 hc
      have := hok.ab e.idx
      show L.b e.idx ≠ L.a i
      omega
  · rw [putsV_out _ _ _ (fun c hc => ?_), putsV_out _ _ _ (fun c hc => ?_)]
    · obtain ⟨e, he, rfl⟩ := List.mem_map.1 hc
      have := hok.ab e.idx
      show L.a e.idx ≠ L.b i
      omega
    · obtain ⟨e, he, rfl⟩ := List.mem_map.1 hc
      show L.b e.idx ≠ L.b i
      intro e2
      exact h e he (by unfold Lg.b at e2; unfold Lg.a; omega)
theorem putV2_in {L : Lg} {es : List Ent} {V : Int → Sl} {n : Int} (hok : LgOk L n) (j : Nat) (hj : j < es.length) (h : ∀ i (hi : i < es.length), L.a es[i].idx = L.a es[j].idx → i = j) :
    putV2 L es V (L.a es[j].idx) = entS es[j] ∧ putV2 L es V (L.b es[j].idx) = markS es[j] := by
  unfold putV2
  refine ⟨?_, ?_⟩
  · rw [putsV_out _ _ _ (fun c hc => ?_)]
    · have := putsV_in (es.map (recW L 2)) V j (by rw [List.length_map]; exact hj) (fun i hi e => h i (by rw [List.length_map] at hi; exact hi) (by rw [List.getElem_map, List.getElem_map] at e; exact e))
      rw [List.getElem_map] at this
      exact this
    · obtain ⟨e, he, rfl⟩ := List.mem_map.1 hc
      have := hok.ab e.idx
      have := hok.ab es[j].idx
      show L.b e.idx ≠ L.a es[j].idx
      omega
  · have := putsV_in (es.map (recW L 3)) (putsV (es.map (recW L 2)) V) j (by rw [List.length_map]; exact hj) (fun i hi e => h i (by rw [List.length_map] at hi; exact hi) (by
      rw [List.getElem_map, List.getElem_map] at e
      have hi' : i < es.length := by rw [List.length_map] at hi; exact hi
      have e2 : L.b es[i].idx = L.b es[j].idx := e
      unfold Lg.b at e2
      unfold Lg.a
      omega))
    rw [List.getElem_map] at this
    exact this
theorem Solid.append {L : Lg} {V : Int → Sl} {all es : List Ent} {n : Int} (h : Solid L V all) (hok : LgOk L n) (he : L.appE es = 0) : Solid (L.appL es) (L.appV es V) (all ++ es) := by
  have e1 : L.appL es = L.grow es := if_pos he
  have e2 : L.appV es V = putV2 L es V := if_pos he
  rw [e1, e2]
  unfold Lg.appE at he
  split at he
  · cases he
  rename_i hroom
  have hc := chkE_all he
  have hlen := h.len
  have hlast := h.last
  have hroom' : (all.length : Int) + es.length ≤ L.size := by omega
  have hidx : ∀ k (hk : k < es.length), es[k].idx = L.first + all.length + k := fun k hk => by have := (hc k hk).1; omega
  have hpos := h.laid.pos
  have hout : ∀ i, L.first ≤ i → i < L.first + L.size → (i < L.first + all.length ∨ L.first + all.length + es.length ≤ i) → putV2 L es V (L.a i) = V (L.a i) ∧ putV2 L es V (L.b i) = V (L.b i) := by
    intro i h1 h2 h3
    refine putV2_out hok i (fun e hm => ?_)
    obtain ⟨k, hk, rfl⟩ := List.getElem_of_mem hm
    rw [hidx k hk]
    rcases h3 with h3 | h3
    · exact fun e => Lg.a_ne hpos (show i < L.first + all.length + k by omega) (by omega) e.symm
    · exact Lg.a_ne hpos (by omega) (by omega)
  have hin : ∀ k (hk : k < es.length), putV2 L es V (L.a (L.first + all.length + k)) = entS es[k] ∧ putV2 L es V (L.b (L.first + all.length + k)) = markS es[k] := by
    intro k hk
    rw [← hidx k hk]
    refine putV2_in hok k hk (fun i hi e => ?_)
    rw [hidx k hk, hidx i hi] at e
    rcases Nat.lt_trichotomy i k with h1 | h1 | h1
    · exact absurd e (Lg.a_ne hpos (by omega) (by omega))
    · exact h1
    · exact absurd e.symm (Lg.a_ne hpos (by omega) (by omega))
  refine ⟨⟨hpos, by rw [List.length_append]; exact_mod_cast hroom', fun k hk => ?_, fun k hk => ?_⟩, fun i h1 h2 => ?_, ?_, h.hurt⟩
  · show (all ++ es)[k].idx = L.first + k
    by_cases hka : k < all.length
    · rw [List.getElem_append_left hka]; exact h.laid.idx k hka
    · rw [List.getElem_append_right (by omega), hidx]; omega
  · show putV2 L es V (L.a (L.first + k)) = (if noBad _ = true then badS else _) ∧ putV2 L es V (L.b (L.first + k)) = (if noBad _ = true then badS else _)
    rw [if_neg (by simp [noBad]), if_neg (by simp [noBad])]
    by_cases hka : k < all.length
    · rw [List.getElem_append_left hka]
      obtain ⟨o1, o2⟩ := hout (L.first + k) (by omega) (by omega) (.inl (by omega))
      rw [o1, o2]
      exact h.at k hka
    · rw [List.getElem_append_right (by omega)]
      have hk2 : k - all.length < es.length := by rw [List.length_append] at hk; omega
      have := hin (k - all.length) hk2
      have e3 : L.first + (all.length : Int) + ((k - all.length : Nat) : Int) = L.first + k := by omega
      rw [e3] at this
      exact this
  · rw [List.length_append] at h1
    have h1' : L.first + ((all.length + es.length : Nat) : Int) ≤ i := h1
    have h2' : i < L.first + L.size := h2
    obtain ⟨o1, o2⟩ := hout i (by omega) h2' (.inr (by omega))
    show Free i (putV2 L es V (L.a i)) ∧ Free i (putV2 L es V (L.b i))
    rw [o1, o2]
    exact h.free i (by omega) h2'
  · show L.terms ++ es.map (·.term) = _
    rw [h.terms, List.map_append]
theorem Solid.cut {L : Lg} {V V' : Int → Sl} {all : List Ent} (h : Solid L V all) {m : Nat} (hm : m < all.length) (hab : ∀ i, L.a i < L.base + L.size ∧ L.base + L.size ≤ L.b i) (hc : CleanP (L.cut (L.first + m)) (L.first + m) 2 V V') : Solid (L.cut (L.first + m)) V' (all.take m) := by
  obtain ⟨V1, hc1, hc2⟩ := hc
  have hc1 : CleanIs L.b (L.first + m) (L.first + L.size) V V1 := hc1
  have hc2 : CleanIs L.a (L.first + m) (L.first + L.size) V1 V' := hc2
  have hpos := h.laid.pos
  have hla := h.laid.len
  have hlow : ∀ k : Nat, k < m → V' (L.a (L.first + k)) = V (L.a (L.first + k)) ∧ V' (L.b (L.first + k)) = V (L.b (L.first + k)) := by
    intro k hk
    refine ⟨?_, ?_⟩
    · rw [hc2.other _ (fun i h1 h2 => Lg.a_ne hpos (by omega) (by omega)), hc1.other _ (fun i h1 h2 e => by have := hab i; have := hab (L.first + k); omega)]
    · rw [hc2.other _ (fun i h1 h2 e => by have := hab i; have := hab (L.first + k); omega), hc1.other _ (fun i h1 h2 => Lg.b_ne hpos (by omega) (by omega))]
  have hhigh : ∀ i, L.first + m ≤ i → i < L.first + L.size → V' (L.a i) = cleanS i (V (L.a i)) ∧ V' (L.b i) = cleanS i (V (L.b i)) := by
    intro i h1 h2
    refine ⟨?_, ?_⟩
    · rw [hc2.done i h1 h2, hc1.other _ (fun j h3 h4 e => by have := hab i; have := hab j; omega)]
    · rw [hc2.other _ (fun j h3 h4 e => by have := hab i; have := hab j; omega), hc1.done i h1 h2]
  have hfree : ∀ i s, Free i (cleanS i s) := by
    intro i s
    unfold cleanS
    split
    · assumption
    · exact .inl rfl
  refine ⟨⟨hpos, by rw [List.length_take]; show ((min m all.length : Nat) : Int) ≤ L.size; omega, fun k hk => ?_, fun k hk => ?_⟩, fun i h1 h2 => ?_, ?_, fun i => ?_⟩
  · rw [List.length_take] at hk
    rw [List.getElem_take]
    exact h.laid.idx k (by omega)
  · rw [List.length_take] at hk
    rw [List.getElem_take]
    obtain ⟨o1, o2⟩ := hlow k (by omega)
    show V' (L.a (L.first + k)) = _ ∧ V' (L.b (L.first + k)) = _
    rw [o1, o2]
    exact h.laid.there k (by omega)
  · rw [List.length_take, Nat.min_eq_left (by omega)] at h1
    obtain ⟨o1, o2⟩ := hhigh i h1 h2
    show Free i (V' (L.a i)) ∧ Free i (V' (L.b i))
    rw [o1, o2]
    exact ⟨hfree _ _, hfree _ _⟩
  · show L.terms.take _ = _
    have e : (L.first + (m : Int) - L.first).toNat = m := by omega
    rw [e, h.terms, List.map_take]
  · show (L.hurt i && _) = false
    rw [h.hurt i, Bool.false_and]
theorem Lg.a_add (L : Lg) (i : Int) : L.a (i + L.size) = L.a i := by unfold Lg.a; rw [Int.add_emod_right]
theorem Lg.b_add (L : Lg) (i : Int) : L.b (i + L.size) = L.b i := by unfold Lg.b; rw [Int.add_emod_right]
theorem Solid.drop {L : Lg} {V : Int → Sl} {all : List Ent} (h : Solid L V all) {m : Nat} (hm : m ≤ all.length) : Solid (L.drop (L.first + m)) V (all.drop m) := by
  have hpos := h.laid.pos
  have hla := h.laid.len
  have ei : ∀ k : Nat, L.first + (m : Int) + (k : Int) = L.first + ((m + k : Nat) : Int) := fun k => by omega
  refine ⟨⟨hpos, by rw [List.length_drop]; show ((all.length - m : Nat) : Int) ≤ L.size; omega, fun k hk => ?_, fun k hk => ?_⟩, fun i h1 h2 => ?_, ?_, fun i => ?_⟩
  · rw [List.length_drop] at hk
    rw [List.getElem_drop]
    show _ = L.first + (m : Int) + (k : Int)
    rw [ei, h.laid.idx (m + k) (by omega)]
  · rw [List.length_drop] at hk
    rw [List.getElem_drop]
    show V (L.a (L.first + (m : Int) + (k : Int))) = _ ∧ V (L.b (L.first + (m : Int) + (k : Int))) = _
    rw [ei]
    exact h.laid.there (m + k) (by omega)
  · rw [List.length_drop] at h1
    have h1' : L.first + (m : Int) + ((all.length - m : Nat) : Int) ≤ i := h1
    have h2' : i < L.first + (m : Int) + L.size := h2
    show Free i (V (L.a i)) ∧ Free i (V (L.b i))
    by_cases h3 : i < L.first + L.size
    · exact h.free i (by omega) h3
    · obtain ⟨k, hk⟩ : ∃ k : Nat, i - L.size = L.first + (k : Int) := ⟨(i - L.size - L.first).toNat, by omega⟩
      have hk2 : k < m := by omega
      have e : i = L.first + (k : Int) + L.size := by omega
      rw [e, Lg.a_add, Lg.b_add]
      obtain ⟨o1, o2⟩ := h.at k (by omega)
      rw [o1, o2]
      have hx := h.laid.idx k (by omega)
      exact ⟨.inr ⟨rfl, by show all[k].idx < _; omega⟩, .inr ⟨rfl, by show all[k].idx < _; omega⟩⟩
  · show L.terms.drop _ = _
    have e : (L.first + (m : Int) - L.first).toNat = m := by omega
    rw [e, h.terms, List.map_drop]
  · show (L.hurt i && _) = false
    rw [h.hurt i, Bool.false_and]
end Go.Proofs.Ytmjgbkepngeckaa
namespace Go.Proofs.Ytmjgbkepngeckaa
open Go.RowKit
set_option linter.unusedVariables false
set_option linter.unusedSimpArgs false

def orIf (f : Int → Bool) (i : Int) : Int → Bool := fun x => f x || decide (x = i)
theorem LaidE.loseE {L : Lg} {V : Int → Sl} {all : List Ent} {eb mb : Int → Bool} (h : LaidE L V all eb mb) (hab : ∀ i, L.a i < L.base + L.size ∧ L.base + L.size ≤ L.b i) {j : Nat} (hj : j < all.length) :
    LaidE L (setF V (L.a (L.first + j)) badS) all (orIf eb (L.first + j)) mb := by
  have hl := h.len
  refine ⟨h.pos, h.len, h.idx, fun k hk => ?_⟩
  obtain ⟨h1, h2⟩ := h.there k hk
  refine ⟨?_, ?_⟩
  · by_cases e : k = j
    · subst e
      rw [setF_same]
      have : orIf eb (L.first + k) (L.first + k) = true := by simp [orIf]
      rw [if_pos this]
    · rw [setF_other _ _ _ _ (fun e2 => ?_)]
      · have : orIf eb (L.first + j) (L.first + k) = eb (L.first + k) := by
          unfold orIf
          rw [decide_eq_false (by omega), Bool.or_false]
        rw [this]; exact h1
      · rcases Nat.lt_or_gt_of_ne e with h3 | h3
        · exact Lg.a_ne h.pos (show L.first + (k : Int) < L.first + j by omega) (by omega) e2
        · exact Lg.a_ne h.pos (show L.first + (j : Int) < L.first + k by omega) (by omega) e2.symm
  · rw [setF_other _ _ _ _ (fun e2 => by have := hab (L.first + j); have := hab (L.first + k); omega)]
    exact h2
theorem LaidE.loseM {L : Lg} {V : Int → Sl} {all : List Ent} {eb mb : Int → Bool} (h : LaidE L V all eb mb) (hab : ∀ i, L.a i < L.base + L.size ∧ L.base + L.size ≤ L.b i) {j : Nat} (hj : j < all.length) :
    LaidE L (setF V (L.b (L.first + j)) badS) all eb (orIf mb (L.first + j)) := by
  have hl := h.len
  refine ⟨h.pos, h.len, h.idx, fun k hk => ?_⟩
  obtain ⟨h1, h2⟩ := h.there k hk
  refine ⟨?_, ?_⟩
  · rw [setF_other _ _ _ _ (fun e2 => by have := hab (L.first + j); have := hab (L.first + k); omega)]
    exact h1
  · by_cases e : k = j
    · subst e
      rw [setF_same]
      have : orIf mb (L.first + k) (L.first + k) = true := by simp [orIf]
      rw [if_pos this]
    · rw [setF_other _ _ _ _ (fun e2 => ?_)]
      · have : orIf mb (L.first + j) (L.first + k) = mb (L.first + k) := by
          unfold orIf
          rw [decide_eq_false (by omega), Bool.or_false]
        rw [this]; exact h2
      · rcases Nat.lt_or_gt_of_ne e with h3 | h3
        · exact Lg.b_ne h.pos (show L.first + (k : Int) < L.first + j by omega) (by omega) e2
        · exact Lg.b_ne h.pos (show L.first + (j : Int) < L.first + k by omega) (by omega) e2.symm
theorem Open9.lose {L : Lg} {V : Int → Sl} {N : Int} {k : Int} (h : Open9 L V N) (hk : ∀ i, L.first + N ≤ i → i < L.first + L.size → L.a i ≠ k ∧ L.b i ≠ k) (s : Sl) : Open9 L (setF V k s) N := by
  intro i h1 h2
  obtain ⟨g1, g2⟩ := hk i h1 h2
  rw [setF_other _ _ _ _ g1, setF_other _ _ _ _ g2]
  exact h i h1 h2
theorem Open9.loseE {L : Lg} {V : Int → Sl} {N : Nat} (h : Open9 L V N) (hs : 0 < L.size) (hab : ∀ i, L.a i < L.base + L.size ∧ L.base + L.size ≤ L.b i) {j : Nat} (hj : j < N) (s : Sl) : Open9 L (setF V (L.a (L.first + j)) s) N :=
  h.lose (fun i h1 h2 => ⟨fun e => Lg.a_ne hs (show L.first + (j : Int) < i by omega) (by omega) e.symm, fun e => by have := hab i; have := hab (L.first + j); omega⟩) s
theorem Open9.loseM {L : Lg} {V : Int → Sl} {N : Nat} (h : Open9 L V N) (hs : 0 < L.size) (hab : ∀ i, L.a i < L.base + L.size ∧ L.base + L.size ≤ L.b i) {j : Nat} (hj : j < N) (s : Sl) : Open9 L (setF V (L.b (L.first + j)) s) N :=
  h.lose (fun i h1 h2 => ⟨fun e => by have := hab i; have := hab (L.first + j); omega, fun e => Lg.b_ne hs (show L.first + (j : Int) < i by omega) (by omega) e.symm⟩) s
/-- A log whose damage was seen; kn: whose terms are known. -/
structure Tells (L : Lg) (V : Int → Sl) (all : List Ent) (eb mb kn : Int → Bool) : Prop where
  laid : LaidE L V all eb mb
  len : L.terms.length = all.length
  term : ∀ (k : Nat) (hk : k < all.length), L.terms[k]? = some (if kn (L.first + k) = true then all[k].term else 0)
  hurt : ∀ i, L.hurt i = decide (L.first ≤ i ∧ i < L.first + all.length ∧ eb i = true)
  known : ∀ i, eb i = false → kn i = true
theorem Tells.last {L : Lg} {V : Int → Sl} {all : List Ent} {eb mb kn : Int → Bool} (h : Tells L V all eb mb kn) : L.last = L.first + all.length - 1 := by unfold Lg.last; rw [h.len]
theorem Opened.tells {L : Lg} {V : Int → Sl} {all : List Ent} {eb mb mb' : Int → Bool} (h : Opened L all eb mb) (hl : LaidE L V all eb mb') : Tells L V all eb mb' (fun i => !(eb i && mb i)) := by
  refine ⟨hl, h.len, fun k hk => ?_, h.hurt, fun i hi => by rw [hi]; rfl⟩
  rw [h.term k hk, termOf]
  cases eb (L.first + k) <;> cases mb (L.first + k) <;> simp
theorem Tells.termA {L : Lg} {V : Int → Sl} {all : List Ent} {eb mb kn : Int → Bool} (h : Tells L V all eb mb kn) (k : Nat) (hk : k < all.length) : L.term (L.first + k) = if kn (L.first + k) = true then all[k].term else 0 := by
  unfold Lg.term
  have hl := h.last
  rw [if_neg (by omega)]
  have e : (L.first + (k : Int) - L.first).toNat = k := by omega
  rw [e, List.getD_eq_getElem?_getD, h.term k hk]
  rfl
theorem setF_self {α : Type} (f : Int → α) (i : Int) (v : α) (h : f i = v) : setF f i v = f := by
  funext x
  by_cases e : x = i
  · rw [e, setF_same, h]
  · rw [setF_other _ _ _ _ e]
/-- What Read answers of a damaged log, and that it leaves it as it was. -/
def answers (e : Ent) (eb kn : Bool) : Ent × Int := if eb = false then (e, 1) else if kn = true then (⟨e.idx, e.term, []⟩, 2) else (⟨e.idx, 0, []⟩, 3)
theorem Tells.read {L : Lg} {V : Int → Sl} {all : List Ent} {eb mb kn : Int → Bool} (h : Tells L V all eb mb kn) (k : Nat) (hk : k < all.length) (ht : 1 ≤ all[k].term) :
    L.readA V (L.first + k) = answers all[k] (eb (L.first + k)) (kn (L.first + k)) ∧ L.readL V (L.first + k) = L := by
  have hl := h.last
  have hlk := h.laid.look k hk
  have hn : ¬ (L.first + (k : Int) < L.first ∨ L.last < L.first + k) := by omega
  have hta := h.termA k hk
  have hi := h.laid.idx k hk
  unfold Lg.readA Lg.readL answers
  rw [if_neg hn, if_neg hn]
  cases he : eb (L.first + k) with
  | false =>
    have hkn := h.known _ he
    rw [hkn, if_pos rfl] at hta
    have hlk2 : L.look V (L.first + k) = (all[k], 1) := by rw [hlk, he]; rfl
    have hg : L.good V (L.first + k) := ⟨by rw [hlk2], .inr (by rw [hlk2, hta])⟩
    rw [if_pos hg, if_pos hg, hlk2]
    exact ⟨rfl, rfl⟩
  | true =>
    have hg : ¬ L.good V (L.first + k) := fun h2 => by
      have h3 := h2.1
      rw [hlk] at h3
      exact (tells_good _ _ _).2 he h3
    have hh : L.hurt (L.first + k) = true := by rw [h.hurt, decide_eq_true_iff]; exact ⟨by omega, by omega, he⟩
    rw [if_neg hg, if_neg hg, hta, setF_self _ _ _ hh]
    refine ⟨?_, rfl⟩
    cases hkn : kn (L.first + k) with
    | true =>
      simp only [if_true, Bool.true_eq_false, if_false]
      rw [if_pos (by omega), hi]
    | false =>
      simp only [Bool.false_eq_true, if_false, Bool.true_eq_false]
      rw [if_neg (by omega), hi]
/-- Damage found by Scrub. -/
theorem Solid.scr {L : Lg} {V0 V : Int → Sl} {all : List Ent} {eb mb : Int → Bool} (h : Solid L V0 all) (hl : LaidE L V all eb mb) : Tells (L.scr V (L.last + 1)) V all eb mb (fun _ => true) := by
  have hlast := h.last
  refine ⟨⟨hl.pos, hl.len, hl.idx, hl.there⟩, h.len, fun k hk => ?_, fun i => ?_, fun _ _ => rfl⟩
  · show L.terms[k]? = _
    rw [h.terms, List.getElem?_map, List.getElem?_eq_getElem hk, if_pos rfl]
    rfl
  · show (L.hurt i || decide (L.first ≤ i ∧ i < L.last + 1 ∧ ¬ L.good V i)) = decide (L.first ≤ i ∧ i < L.first + all.length ∧ eb i = true)
    rw [h.hurt i, Bool.false_or, decide_eq_decide]
    constructor
    · rintro ⟨h1, h2, h3⟩
      refine ⟨h1, by omega, ?_⟩
      obtain ⟨k, hk⟩ : ∃ k : Nat, i = L.first + (k : Int) := ⟨(i - L.first).toNat, by omega⟩
      subst hk
      have hk' : k < all.length := by omega
      cases he : eb (L.first + k) with
      | true => rfl
      | false =>
        exfalso
        apply h3
        have hlk : L.look V (L.first + k) = (all[k], 1) := by rw [hl.look k hk', he]; rfl
        exact ⟨by rw [hlk], .inr (by rw [hlk, h.term k hk'])⟩
    · rintro ⟨h1, h2, h3⟩
      refine ⟨h1, by omega, fun hg => ?_⟩
      obtain ⟨k, hk⟩ : ∃ k : Nat, i = L.first + (k : Int) := ⟨(i - L.first).toNat, by omega⟩
      subst hk
      have hk' : k < all.length := by omega
      have h5 := hg.1
      rw [hl.look k hk'] at h5
      exact (tells_good _ _ _).2 h3 h5
/-- The first of the damaged. -/
def LeastBad (first : Int) (N : Int) (eb : Int → Bool) (r : Int) : Prop := (r = 0 ∧ ∀ i, first ≤ i → i < first + N → eb i = false) ∨ (first ≤ r ∧ r < first + N ∧ eb r = true ∧ ∀ i, first ≤ i → i < r → eb i = false)
theorem Tells.least {L : Lg} {V : Int → Sl} {all : List Ent} {eb mb kn : Int → Bool} (h : Tells L V all eb mb kn) {r : Int} (hr : LeastBad L.first all.length eb r) : HurtIs L.hurt r := by
  rcases hr with ⟨rfl, h1⟩ | ⟨h1, h2, h3, h4⟩
  · refine .inl ⟨rfl, fun i => ?_⟩
    rw [h.hurt, decide_eq_false_iff_not]
    rintro ⟨h2, h3, h4⟩
    rw [h1 i h2 h3] at h4
    cases h4
  · refine .inr ⟨by rw [h.hurt, decide_eq_true_iff]; exact ⟨h1, h2, h3⟩, fun i hi => ?_⟩
    rw [h.hurt, decide_eq_true_iff] at hi
    obtain ⟨h5, h6, h7⟩ := hi
    by_cases h8 : r ≤ i
    · exact h8
    · rw [h4 i h5 (by omega)] at h7; cases h7
end Go.Proofs.Ytmjgbkepngeckaa
