/- PlogMends: what each call answers there. -/
import Derived.Test.YtmjgbkepngeckaaLawPmend
namespace Go.Proofs.Ytmjgbkepngeckaa
open Go.RowKit
set_option linter.unusedVariables false
set_option linter.unusedSimpArgs false

theorem MendPre.lose2 {L0 : Lg} {D2 : Dv} {V2 : Int → Sl} {list : List Ent} {k : Nat} (h : MendPre L0 D2 V2 list k noBad) (hok : LgOk L0 19) (e3 : L0.first = 1) :
    MendPre L0 (loseD (L0.b (1 + k)) D2) (setF V2 (L0.b (1 + k)) badS) list k (orIf noBad (1 + k)) := by
  have hab : ∀ i, L0.a i < L0.base + L0.size ∧ L0.base + L0.size ≤ L0.b i := fun i => (hok.ab i).2.2.2.2
  obtain ⟨a1, a2, b1, b2, _⟩ := hok.ab (1 + (k : Int))
  have hl := h.laid
  have ho := h.free
  have e : (1 : Int) + k = L0.first + (k : Int) := by rw [e3]
  have hl2 : LaidE L0 (setF V2 (L0.b (1 + k)) badS) list (orIf noBad (1 + k)) (orIf noBad (1 + k)) := by
    rw [e] at hl ⊢
    exact hl.loseM hab h.hk
  have ho2 : Open9 L0 (setF V2 (L0.b (1 + k)) badS) list.length := by
    rw [e]
    exact ho.loseM hl.pos hab h.hk badS
  exact ⟨h.fine.lose b1 b2, hl2, ho2, h.hk, h.u1.lose, h.u2.lose, fun i hi => by simpa [orIf, noBad] using hi⟩
def MP (w0 w : World) (b : Nat) (L0 : Lg) (list : List Ent) (k : Nat) (mb : Int → Bool) (O : List Nat) : Prop := ∃ D2 V2, DevO w0 w b D2 O ∧ MendPre L0 D2 V2 list k mb
section
variable {w0 w : World} {q b : Nat} {L0 L1 : Lg} {V : Int → Sl} {O : List Nat} {list : List Ent} {k : Nat} {mb : Int → Bool}
theorem LgX.lose1 (h : LgX w0 w q b L0 19 V O) (hS : Solid L0 V list) (e3 : L0.first = 1) (hk : k < list.length) :
    Calls Try.prog 28 #[.pointer (some ⟨b, 0, none⟩), .int .i64 (L0.a (1 + k))] w fun e w' => e = .returned (.tuple #[]) ∧ MP w0 w' b L0 list k noBad O ∧ Kept O w w' := by
  obtain ⟨mb, tv, D, h⟩ := h
  have hd : DevO w0 w b D O := h.dev.sub (fun z hz => by simp [hz])
  exact (lose_o b D _ w0 w O hd).mono fun e w' ⟨he, h1, h2⟩ => ⟨he, ⟨_, _, h1, (mend_pre (n := 0) hS h.ok e3 h.fine hk).1⟩, h2⟩
theorem MP.lose2 (h : MP w0 w b L0 list k noBad O) (hok : LgOk L0 19) (e3 : L0.first = 1) :
    Calls Try.prog 28 #[.pointer (some ⟨b, 0, none⟩), .int .i64 (L0.b (1 + k))] w fun e w' => e = .returned (.tuple #[]) ∧ MP w0 w' b L0 list k (orIf noBad (1 + k)) O ∧ Kept O w w' := by
  obtain ⟨D2, V2, h1, h2⟩ := h
  exact (lose_o b D2 _ w0 w O h1).mono fun e w' ⟨he, h3, h4⟩ => ⟨he, ⟨_, _, h3, h2.lose2 hok e3⟩, h4⟩
/-- The log opened over the damage. -/
structure MO (w0 w : World) (q b : Nat) (L0 : Lg) (list : List Ent) (k : Nat) (O : List Nat) : Prop where
  hk : k < list.length
  dat : ∃ mbb tv D2 V2 V3 L1 mb, LgAt w0 w q b mbb tv D2 L1 19 V3 0 O ∧ MendPre L0 D2 V2 list k mb ∧ (L1.base = L0.base ∧ L1.size = L0.size ∧ L1.first = 1) ∧ L1.last = list.length ∧ HurtIs L1.hurt (1 + k) ∧ (L1.term (1 + k) = 0 ∨ L1.term (1 + k) = list[k].term)
theorem MO.keep {w' : World} (h : MO w0 w q b L0 list k O) (hx : Ext [] w w') : MO w0 w' q b L0 list k O := by
  obtain ⟨hk, mbb, tv, D2, V2, V3, L1, mb, h1, h2⟩ := h
  exact ⟨hk, mbb, tv, D2, V2, V3, L1, mb, h1.keep hx, h2⟩
theorem MO.last_c (h : MO w0 w q b L0 list k O) : Calls Try.prog 21 #[.pointer (some ⟨q, 0, none⟩)] w fun e w' => e = .returned (.int .i64 list.length) ∧ Ext [] w w' := by
  obtain ⟨hk, mbb, tv, D2, V2, V3, L1, mb, h1, h2, h3, h4, h5⟩ := h
  have hx : LgX w0 w q b L1 19 V3 O := ⟨mbb, tv, D2, h1⟩
  have := hx.last_c
  rwa [h4] at this
theorem MO.hurt_c (h : MO w0 w q b L0 list k O) : Calls Try.prog 19 #[.pointer (some ⟨q, 0, none⟩)] w fun e w' => e = .returned (.int .i64 (1 + k)) ∧ Ext [] w w' := by
  obtain ⟨hk, mbb, tv, D2, V2, V3, L1, mb, h1, h2, h3, h4, h5, h6⟩ := h
  have hx : LgX w0 w q b L1 19 V3 O := ⟨mbb, tv, D2, h1⟩
  exact hx.hurt_c h5
theorem MP.open1 (h : MP w0 w b L0 list k mb O) (hok : LgOk L0 19) (e1 : L0.base = 3) (e2 : L0.size = 8) (e3 : L0.first = 1) :
    Calls Try.prog 20 #[.pointer (some ⟨b, 0, none⟩), .int .i64 3, .int .i64 8, .int .i64 1] w fun e w' => ∃ q, e = .returned (.tuple #[.pointer (some ⟨q, 0, none⟩), .int .i64 0]) ∧ MO w0 w' q b L0 list k O ∧ Kept O w w' := by
  obtain ⟨D2, V2, h1, h2⟩ := h
  refine (open_d h1 h2.fine 3 8 1 (by omega) (by omega) (by omega) (by omega) (by omega)).mono ?_
  rintro e w' ⟨q, mbb, tv, L1, D3, V1, V3, rfl, hat, hk, ⟨f1, f2, f3⟩, hs, hend, hr, hc, -, hsame⟩
  have hb : L1.base = L0.base := by rw [f1, e1]
  have hz : L1.size = L0.size := by rw [f2, e2]
  have hf : L1.first = L0.first := by rw [f3, e3]
  have hl := h2.laid.like (L := L1) hb hz hf
  have hfr := h2.free.like (L := L1) hb hz hf
  have hop : Opened L1 list (orIf noBad (1 + k)) mb := hl.opened hs hend hat.ok.len (by
    have hll := hl.len
    by_cases e : (list.length : Int) = L1.size
    · exact .inl e
    · exact .inr (free_look (hfr _ (Int.le_refl _) (by omega)).1))
  obtain ⟨i1, i2⟩ := h2.idle hb hz hf e3 hop
  have hD := hsame i1 i2
  subst hD
  have ht := hop.tells hl
  have hlast := ht.last
  refine ⟨q, rfl, ⟨h2.hk, mbb, tv, D3, V2, V3, L1, mb, hat, h2, ⟨hb, hz, f3⟩, by rw [hlast, f3]; omega, ?_, ?_⟩, hk⟩
  · have hh := fun i => hop.hurt i
    right
    refine ⟨?_, fun i hi => ?_⟩
    · rw [hh, decide_eq_true_iff]
      exact ⟨by omega, by have := h2.hk; omega, by simp [orIf]⟩
    · rw [hh, decide_eq_true_iff] at hi
      have := hi.2.2
      simp [orIf, noBad] at this
      omega
  · have := ht.termA k h2.hk
    rw [f3] at this
    rw [this]
    split
    · exact .inr rfl
    · exact .inl rfl
/-- The power about to fail. -/
structure MF (w0 w : World) (q b : Nat) (L0 : Lg) (list : List Ent) (k : Nat) (F : Int) (O : List Nat) : Prop where
  hk : k < list.length
  dat : ∃ mbb tv D2 V2 L1 mb, LgM w0 w q b mbb tv (fallD F D2) L1 19 O ∧ MendPre L0 D2 V2 list k mb ∧ (L1.base = L0.base ∧ L1.size = L0.size ∧ L1.first = 1) ∧ L1.last = list.length ∧ (L1.term (1 + k) = 0 ∨ L1.term (1 + k) = list[k].term)
theorem MO.fall (h : MO w0 w q b L0 list k O) (F : Int) (hF : F ≤ 7) :
    Calls Try.prog 31 #[.pointer (some ⟨b, 0, none⟩), .int .i64 F] w fun e w' => e = .returned (.tuple #[]) ∧ MF w0 w' q b L0 list k F O ∧ Kept O w w' := by
  obtain ⟨hk, mbb, tv, D2, V2, V3, L1, mb, h1, h2, h3, h4, h5, h6⟩ := h
  refine (fall_o b D2 F w0 w _ h1.dev (by omega)).mono ?_
  rintro e w' ⟨he, h7, h8⟩
  obtain ⟨h9, h10⟩ := h1.toLgM.devt h7 h8
  exact ⟨he, ⟨hk, mbb, tv, D2, V2, L1, mb, h9, h2, h3, h4, h6⟩, h10⟩
def MC (w0 w : World) (b : Nat) (L0 : Lg) (list : List Ent) (k : Nat) (fate r : Int) (O : List Nat) : Prop := ∃ D4, DevO w0 w b D4 O ∧ MendPost L0 (r, D4) fate list k
theorem MF.mend {F : Int} (h : MF w0 w q b L0 list k F O) (hok : LgOk L0 19) (e3 : L0.first = 1) (hF : 0 ≤ F) (fate : Int) (x : Ent) (hx : list[k]'h.hk = x) (hb : ¬ x.bad) :
    Calls Try.prog 22 #[.pointer (some ⟨q, 0, none⟩), x.val] w fun e w' => ∃ r, e = .returned (.int .i64 r) ∧ (r = 0 ∨ r = 5) ∧ MC w0 w' b L0 list k fate r O ∧ Kept O w w' := by
  obtain ⟨hk, mbb, tv, D2, V2, L1, mb, h1, h2, ⟨f1, f2, f3⟩, h4, h6⟩ := h
  subst hx
  have hix := h2.laid.idx k hk
  rw [e3] at hix
  have hp := h2.mend (L1 := L1) hok f1 f2 e3 F hF fate
  have hbb : 1 ≤ list[k].term ∧ list[k].term ≤ 1099511627776 ∧ list[k].data.length ≤ 488 := by
    unfold Ent.bad at hb
    omega
  refine (mend_o h1 list[k] (by omega) (by omega) hbb.1 hbb.2.1 hbb.2.2 (by rw [hix]; exact h6) (by
    have := h2.fine.since
    show D2.since.length ≤ 1000
    omega)).mono ?_
  rintro e w' ⟨he, h7, h8⟩
  exact ⟨_, he, hp.err, ⟨_, h7.dev.sub (fun z hz => by simp [hz]), hp⟩, h8⟩
def MX (w0 w : World) (b : Nat) (L0 : Lg) (list : List Ent) (k : Nat) (r : Int) (O : List Nat) : Prop := ∃ V4 eb mb, DevX w0 w b 19 V4 O ∧ LaidE L0 V4 list eb mb ∧ Open9 L0 V4 list.length ∧ (∀ i : Int, i ≠ 1 + (k : Int) → eb i = false) ∧ (r = 0 → eb (1 + k) = false)
theorem MC.crash {fate r : Int} (h : MC w0 w b L0 list k fate r O) (a : Option Addr) (len cap : Nat) (hR : Rd w 1 (.slice a len cap) len ([fate].map (Value.int .i64))) :
    Calls Try.prog 24 #[.pointer (some ⟨b, 0, none⟩), .slice a len cap] w fun e w' => ∃ b', e = .returned (.pointer (some ⟨b', 0, none⟩)) ∧ MX w0 w' b' L0 list k r O ∧ Ext [] w w' := by
  obtain ⟨D, ⟨⟨F, hF, hl, ho⟩, hx, hok⟩, h2⟩ := h
  obtain ⟨V4, eb, mb, g1, g2, g3, g4, g5⟩ := h2.ex
  refine (crash_any b F D a len cap [fate] w hF hok hR).mono fun e w' ⟨b', F', he, hd, hl', hx2⟩ => ⟨b', he, ⟨V4, eb, mb, ⟨crashD [fate] D, ⟨⟨F', hd, fun k hk => ?_, fun z hz => ⟨fun hk => ?_, ?_⟩⟩, hx.then0 hx2, hok.crash _⟩, g1⟩, g2, g3, g4, g5⟩, hx2⟩
  · have := hx.size
    have := hl' k hk
    omega
  · have := hl' z hk
    have := (ho z hz).2
    omega
  · have := (ho z hz).2
    have := hx2.size
    omega
def MZ (w0 w : World) (q b : Nat) (list : List Ent) (k : Nat) (r : Int) (O : List Nat) : Prop := ∃ L V eb mb kn, LgX w0 w q b L 19 V O ∧ Tells L V list eb mb kn ∧ L.first = 1 ∧ (∀ i : Int, i ≠ 1 + (k : Int) → eb i = false) ∧ (r = 0 → eb (1 + k) = false)
theorem MX.keep {w' : World} {r : Int} (h : MX w0 w b L0 list k r O) (hx : Ext [] w w') : MX w0 w' b L0 list k r O := by
  obtain ⟨V4, eb, mb, h1, h2⟩ := h
  exact ⟨V4, eb, mb, h1.keep hx, h2⟩
theorem MX.open2 {r : Int} (h : MX w0 w b L0 list k r O) (e1 : L0.base = 3) (e2 : L0.size = 8) (e3 : L0.first = 1) :
    Calls Try.prog 20 #[.pointer (some ⟨b, 0, none⟩), .int .i64 3, .int .i64 8, .int .i64 1] w fun e w' => ∃ q, e = .returned (.tuple #[.pointer (some ⟨q, 0, none⟩), .int .i64 0]) ∧ MZ w0 w' q b list k r O ∧ Kept O w w' := by
  obtain ⟨V4, eb, mb, g1, g2, g3, g4, g5⟩ := h
  refine (open_t g1 g2 g3 3 8 1 e1 e2 e3 (by omega) (by omega) (by omega) (by omega) (by omega)).mono ?_
  rintro e w' ⟨q, L, V, rfl, hx, hk, ht, -, f1, f2, f3⟩
  exact ⟨q, rfl, ⟨L, V, _, _, _, hx, ht, f3, g4, g5⟩, hk⟩
theorem MZ.keep {w' : World} {r : Int} (h : MZ w0 w q b list k r O) (hx : Ext [] w w') : MZ w0 w' q b list k r O := by
  obtain ⟨L, V, eb, mb, kn, h1, h2⟩ := h
  exact ⟨L, V, eb, mb, kn, h1.keep hx, h2⟩
theorem MZ.ext {r : Int} (h : MZ w0 w q b list k r O) : Ext [] w0 w := by
  obtain ⟨L, V, eb, mb, kn, h1, h2⟩ := h
  exact h1.ext
theorem MZ.last_c {r : Int} (h : MZ w0 w q b list k r O) : Calls Try.prog 21 #[.pointer (some ⟨q, 0, none⟩)] w fun e w' => e = .returned (.int .i64 list.length) ∧ Ext [] w w' := by
  obtain ⟨L, V, eb, mb, kn, h1, h2, h3, h4⟩ := h
  have := h1.last_c
  have e := h2.last
  rw [h3] at e
  rwa [show L.last = (list.length : Int) by omega] at this
/-- A read of the mended log. -/
def MRead (x : Ent) (j k : Nat) (r : Int) (y : Ent) (st : Int) : Prop := (st = 1 ∧ y = x) ∨ (j = k ∧ r ≠ 0 ∧ (st = 2 ∨ st = 3))
theorem MZ.read {r : Int} (h : MZ w0 w q b list k r O) (j : Nat) (x : Ent) (hj : j < list.length) (hx : list[j] = x) (ht : 1 ≤ x.term) :
    Calls Try.prog 18 #[.pointer (some ⟨q, 0, none⟩), .int .i64 ((j : Int) + 1)] w fun e w' => ∃ y st, e = .returned (.tuple #[y.val, .int .i64 st]) ∧ Hid (MRead x j k r y st) ∧ MZ w0 w' q b list k r O ∧ Kept O w w' := by
  obtain ⟨L, V, eb, mb, kn, h1, h2, h3, h4, h5⟩ := h
  subst hx
  obtain ⟨a1, a2⟩ := h2.read j hj ht
  have hr := h1.read (L.first + j)
  rw [a2] at hr
  rw [show L.first + (j : Int) = (j : Int) + 1 by omega] at hr a1
  refine hr.mono ?_
  rintro e w' ⟨rfl, h6, h7⟩
  refine ⟨_, _, rfl, ?_, ⟨L, V, eb, mb, kn, h6, h2, h3, h4, h5⟩, h7⟩
  rw [a1]
  show MRead _ _ _ _ _ _
  unfold MRead answers
  cases he : eb ((j : Int) + 1) with
  | false => exact .inl ⟨rfl, rfl⟩
  | true =>
    right
    have hjk : j = k := by
      by_cases e : (j : Int) + 1 = 1 + k
      · omega
      · have := h4 _ e
        rw [he] at this
        cases this
    subst hjk
    refine ⟨rfl, fun h0 => ?_, ?_⟩
    · have := h5 h0
      rw [show (1 : Int) + j = (j : Int) + 1 by omega, he] at this
      cases this
    · rw [if_neg (by decide)]
      split
      · exact .inl rfl
      · exact .inr rfl
end
end Go.Proofs.Ytmjgbkepngeckaa
