/- PlogMends: the plain law, the walk. -/
import Derived.Test.YtmjgbkepngeckaaPq5
import Derived.Test.YtmjgbkepngeckaaBits
import Derived.Test.YtmjgbkepngeckaaMendLaw
namespace Go.Proofs.Ytmjgbkepngeckaa
open Go.RowKit
set_option linter.unusedVariables false
set_option linter.unusedSimpArgs false
attribute [local go_sem] i64_and3 i64_and7 i64_and255

theorem Fine.under {D : Dv} {n : Int} {V : Int → Sl} (h : Fine D n V 0) {k : Int} (h1 : 0 ≤ k) (h2 : k < n) {r : Rc} (hv : V k = (1, r)) : Under D k r := by
  have hc := h.calm
  have hview := hc.view k h1 h2
  rw [hv] at hview
  have hl : D.lost k = false := by
    cases hl : D.lost k with
    | false => rfl
    | true => rw [hl] at hview; have := congrArg Prod.fst hview; simp [slotv] at this
  rw [hl, slotv, if_neg (by decide)] at hview
  have hg : getS (D.safe k) = 1 := (congrArg Prod.fst hview).symm
  have hr : getR (D.safe k) = r := (congrArg Prod.snd hview).symm
  obtain ⟨p1, p2⟩ := put_get hg
  rw [hr] at p1 p2
  refine ⟨p2.symm, ?_, p1⟩
  cases hh : D.hurt k with
  | false => rfl
  | true => have := hc.hurt k h1 h2 hh; rw [hv] at this; simp at this
theorem Under.lose {D : Dv} {k j : Int} {r : Rc} (h : Under D k r) : Under (loseD j D) k r := by
  unfold loseD
  split
  · exact ⟨h.safe, h.hurt, h.put⟩
  · exact h
/-- What an entry's mending starts with. -/
structure MendPre (L0 : Lg) (D2 : Dv) (V2 : Int → Sl) (list : List Ent) (k : Nat) (mb : Int → Bool) : Prop where
  fine : Fine D2 19 V2 0
  laid : LaidE L0 V2 list (orIf noBad (1 + k)) mb
  free : Open9 L0 V2 list.length
  hk : k < list.length
  u1 : Under D2 (L0.a (1 + k)) ⟨2, list[k].idx, list[k].term, list[k].data⟩
  u2 : Under D2 (L0.b (1 + k)) ⟨3, list[k].idx, list[k].term, []⟩
  only : ∀ i, mb i = true → i = 1 + k
theorem mend_pre {L0 : Lg} {D : Dv} {V : Int → Sl} {list : List Ent} {n : Int} (hS : Solid L0 V list) (hok : LgOk L0 19) (e3 : L0.first = 1) (hf : Fine D 19 V 0) {k : Nat} (hk : k < list.length) :
    MendPre L0 (loseD (L0.a (1 + k)) D) (setF V (L0.a (1 + k)) badS) list k noBad ∧ MendPre L0 (loseD (L0.b (1 + k)) (loseD (L0.a (1 + k)) D)) (setF (setF V (L0.a (1 + k)) badS) (L0.b (1 + k)) badS) list k (orIf noBad (1 + k)) := by
  have hab : ∀ i, L0.a i < L0.base + L0.size ∧ L0.base + L0.size ≤ L0.b i := fun i => (hok.ab i).2.2.2.2
  obtain ⟨a1, a2, b1, b2, _⟩ := hok.ab (1 + (k : Int))
  have hat := hS.at k hk
  have hl := hS.laid.loseE hab hk
  have ho := hS.free.loseE hS.laid.pos hab hk badS
  have hl2 := hl.loseM hab hk
  have ho2 := ho.loseM hS.laid.pos hab hk badS
  rw [e3] at hat hl ho hl2 ho2
  have u1 := hf.under a1 a2 hat.1
  have u2 := hf.under b1 b2 hat.2
  have f1 := hf.lose a1 a2
  have f2 := f1.lose b1 b2
  exact ⟨⟨f1, hl, ho, hk, u1.lose, u2.lose, fun i hi => by cases hi⟩, ⟨f2, hl2, ho2, hk, u1.lose.lose, u2.lose.lose, fun i hi => by simpa [orIf, noBad] using hi⟩⟩
theorem MendPre.idle {L0 L1 : Lg} {D2 : Dv} {V2 : Int → Sl} {list : List Ent} {k : Nat} {mb : Int → Bool} (h : MendPre L0 D2 V2 list k mb) (hb : L1.base = L0.base) (hz : L1.size = L0.size) (hf : L1.first = L0.first) (e3 : L0.first = 1) (ho : Opened L1 list (orIf noBad (1 + k)) mb) :
    MarksOk L1 V2 ∧ AllFree L1 (L1.first + L1.terms.length) V2 := by
  have hl := h.laid.like (L := L1) hb hz hf
  have hfr := h.free.like (L := L1) hb hz hf
  refine ⟨fun j hj hh => ?_, fun i h1 h2 => hfr i (by rw [← ho.len]; exact h1) h2⟩
  have hj' : j < list.length := by rw [← ho.len]; exact hj
  have h1 := (hl.there j hj').2
  have hne : orIf noBad (1 + k) (L1.first + j) = false := by
    rw [ho.hurt, decide_eq_false_iff_not] at hh
    cases he : orIf noBad (1 + k) (L1.first + j) with
    | false => rfl
    | true => exact absurd ⟨by omega, by omega, he⟩ hh
  have hm : mb (L1.first + j) = false := by
    cases hm : mb (L1.first + j) with
    | false => rfl
    | true => have := h.only _ hm; rw [this] at hne; simp [orIf] at hne
  rw [hm, if_neg (by decide)] at h1
  rw [h1, markS, hl.idx j hj']
  have ht := ho.term j hj'
  rw [hne] at ht
  have ht2 : L1.terms.getD j 0 = list[j].term := by rw [List.getD_eq_getElem?_getD, ht]; rfl
  rw [ht2]
structure MendPost (L0 : Lg) (P : Int × Dv) (fate : Int) (list : List Ent) (k : Nat) : Prop where
  err : P.1 = 0 ∨ P.1 = 5
  ex : ∃ V4 eb mb, Fine (crashD [fate] P.2) 19 V4 0 ∧ LaidE L0 V4 list eb mb ∧ Open9 L0 V4 list.length ∧ (∀ i : Int, i ≠ 1 + (k : Int) → eb i = false) ∧ (P.1 = 0 → eb (1 + k) = false)
theorem MendPre.mend {L0 L1 : Lg} {D2 : Dv} {V2 : Int → Sl} {list : List Ent} {k : Nat} {mb : Int → Bool} (h : MendPre L0 D2 V2 list k mb) (hok : LgOk L0 19) (hb : L1.base = L0.base) (hz : L1.size = L0.size) (e3 : L0.first = 1) (F : Int) (hF : 0 ≤ F) (fate : Int) :
    MendPost L0 (putP L1 [list[k]'h.hk] (fallD F D2)) fate list k := by
  have hk := h.hk
  have hab : ∀ i, L0.a i < L0.base + L0.size ∧ L0.base + L0.size ≤ L0.b i := fun i => (hok.ab i).2.2.2.2
  obtain ⟨a1, a2, b1, b2, _⟩ := hok.ab (1 + (k : Int))
  have hix := h.laid.idx k hk
  rw [e3] at hix
  have ea : L1.a = L0.a := by funext i; unfold Lg.a; rw [hb, hz]
  have eb : L1.b = L0.b := by funext i; unfold Lg.b; rw [hb, hz]
  have hc : Calm (fallD F D2) 19 V2 := h.fine.calm.like rfl rfl rfl rfl rfl
  have hne : L0.a (1 + k) ≠ L0.b (1 + k) := by have := hab (1 + (k : Int)); omega
  have hp := phases hc (by omega) (F := F) (by show max F 0 = F; omega) hF (show (fallD F D2).down = false from h.fine.live.down) ⟨a1, a2⟩ ⟨b1, b2⟩ hne (r1 := ⟨2, list[k].idx, list[k].term, list[k].data⟩) (r2 := ⟨3, list[k].idx, list[k].term, []⟩) ⟨h.u1.safe, h.u1.hurt, h.u1.put⟩ ⟨h.u2.safe, h.u2.hurt, h.u2.put⟩ fate
  have eP : putP L1 [list[k]] (fallD F D2) = (if (wrf [(L0.a (1 + k), ⟨2, list[k].idx, list[k].term, list[k].data⟩)] (fallD F D2)).1 = 0 then wrf [(L0.b (1 + k), ⟨3, list[k].idx, list[k].term, []⟩)] (wrf [(L0.a (1 + k), ⟨2, list[k].idx, list[k].term, list[k].data⟩)] (fallD F D2)).2 else wrf [(L0.a (1 + k), ⟨2, list[k].idx, list[k].term, list[k].data⟩)] (fallD F D2)) := by
    have r1 : [list[k]].map (recW L1 2) = [(L0.a (1 + k), ⟨2, list[k].idx, list[k].term, list[k].data⟩)] := by
      show [recW L1 2 list[k]] = _
      unfold recW
      rw [if_pos rfl, ea, hix]
    have r2 : [list[k]].map (recW L1 3) = [(L0.b (1 + k), ⟨3, list[k].idx, list[k].term, []⟩)] := by
      show [recW L1 3 list[k]] = _
      unfold recW
      rw [if_neg (by decide), eb, hix]
    unfold putP put2 put1
    rw [r1, r2]
  simp only at hp
  rw [← eP] at hp
  obtain ⟨p1, V4, p2, p3, p4, p5, p6⟩ := hp
  have hth := h.laid.there
  have htk := hth k hk
  rw [e3] at htk
  have hek : orIf noBad (1 + k) (1 + k) = true := by simp [orIf]
  rw [hek, if_pos rfl] at htk
  have hne2 : entS list[k] ≠ badS := by intro e; have := congrArg Prod.fst e; simp [entS, badS] at this
  have hne3 : markS list[k] ≠ badS := by intro e; have := congrArg Prod.fst e; simp [markS, badS] at this
  have q3 : V4 (L0.a (1 + k)) = entS list[k] ∨ V4 (L0.a (1 + k)) = badS := by
    rcases p3 with h1 | h1 | h1
    · exact .inl h1
    · exact .inr h1
    · rw [htk.1] at h1; exact .inr h1
  have q4 : V4 (L0.b (1 + k)) = markS list[k] ∨ V4 (L0.b (1 + k)) = badS := by
    rcases p4 with h1 | h1 | h1
    · exact .inl h1
    · exact .inr h1
    · rw [htk.2] at h1
      by_cases hm : mb (1 + k) = true
      · rw [if_pos hm] at h1; exact .inr h1
      · rw [if_neg hm] at h1; exact .inl h1
  obtain ⟨ea', hea⟩ : ∃ x : Bool, (x = true → V4 (L0.a (1 + k)) = badS) ∧ (x = false → V4 (L0.a (1 + k)) = entS list[k]) := by
    rcases q3 with h1 | h1
    · exact ⟨false, fun h => (by cases h), fun _ => h1⟩
    · exact ⟨true, fun _ => h1, fun h => (by cases h)⟩
  obtain ⟨eb', heb⟩ : ∃ x : Bool, (x = true → V4 (L0.b (1 + k)) = badS) ∧ (x = false → V4 (L0.b (1 + k)) = markS list[k]) := by
    rcases q4 with h1 | h1
    · exact ⟨false, fun h => (by cases h), fun _ => h1⟩
    · exact ⟨true, fun _ => h1, fun h => (by cases h)⟩
  have hpos := h.laid.pos
  have hlen := h.laid.len
  refine ⟨p1, V4, fun i => decide (i = 1 + (k : Int)) && ea', fun i => decide (i = 1 + (k : Int)) && eb', p2, ⟨hpos, hlen, h.laid.idx, fun j hj => ?_⟩, fun i h1 h2 => ?_, fun i hi => by show (decide (i = 1 + (k : Int)) && ea') = false; rw [decide_eq_false hi, Bool.false_and], fun h0 => ?_⟩
  · rw [e3]
    by_cases e : j = k
    · subst e
      rw [decide_eq_true rfl, Bool.true_and, Bool.true_and]
      refine ⟨?_, ?_⟩
      · cases ea' with
        | true => rw [if_pos rfl]; exact hea.1 rfl
        | false => rw [if_neg (by decide)]; exact hea.2 rfl
      · cases eb' with
        | true => rw [if_pos rfl]; exact heb.1 rfl
        | false => rw [if_neg (by decide)]; exact heb.2 rfl
    · have hd : decide ((1 : Int) + (j : Int) = 1 + (k : Int)) = false := decide_eq_false (by omega)
      rw [hd, Bool.false_and, Bool.false_and, if_neg (by decide), if_neg (by decide)]
      have htj := hth j hj
      rw [e3] at htj
      have h1 : orIf noBad (1 + k) (1 + j) = false := by
        unfold orIf
        rw [hd, Bool.or_false]; rfl
      have h2 : mb (1 + j) = false := by
        cases hm : mb (1 + j) with
        | false => rfl
        | true => have := h.only _ hm; omega
      rw [h1, h2, if_neg (by decide), if_neg (by decide)] at htj
      have n1 : L0.a (1 + j) ≠ L0.a (1 + k) := by
        rcases Nat.lt_or_gt_of_ne e with h3 | h3
        · exact Lg.a_ne hpos (by omega) (by omega)
        · exact fun e => Lg.a_ne hpos (show (1 : Int) + k < 1 + j by omega) (by omega) e.symm
      have n2 : L0.b (1 + j) ≠ L0.b (1 + k) := by
        rcases Nat.lt_or_gt_of_ne e with h3 | h3
        · exact Lg.b_ne hpos (by omega) (by omega)
        · exact fun e => Lg.b_ne hpos (show (1 : Int) + k < 1 + j by omega) (by omega) e.symm
      have n3 := hab (1 + (j : Int))
      have n4 := hab (1 + (k : Int))
      rw [p5 _ n1 (by omega), p5 _ (by omega) n2]
      exact htj
  · have h3 := h.free i h1 h2
    rw [e3] at h1 h2
    have n1 : L0.a i ≠ L0.a (1 + k) := fun e => Lg.a_ne hpos (show (1 : Int) + k < i by omega) (by omega) e.symm
    have n2 : L0.b i ≠ L0.b (1 + k) := fun e => Lg.b_ne hpos (show (1 : Int) + k < i by omega) (by omega) e.symm
    have n3 := hab i
    have n4 := hab (1 + (k : Int))
    rw [p5 _ n1 (by omega), p5 _ (by omega) n2]
    exact h3
  · have h1 := p6 h0
    cases ea' with
    | false => show (decide _ && false) = false; rw [Bool.and_false]
    | true => exact absurd ((hea.1 rfl).symm.trans h1) (fun e => hne2 e.symm)
end Go.Proofs.Ytmjgbkepngeckaa
