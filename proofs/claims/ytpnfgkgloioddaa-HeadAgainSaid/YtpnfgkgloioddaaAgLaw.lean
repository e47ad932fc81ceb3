/- Plain law of HeadAgain. No program in sight. -/
import Derived.Test.YtpnfgkgloioddaaHdBeg
import Derived.Test.YtpnfgkgloioddaaLawFaults
namespace Go.Proofs.Ytpnfgkgloioddaa
set_option linter.unusedVariables false

/-- Two blocks as they lie on a device, and what is under way. -/
structure L3 (D : Dv) (l : List (Int × List UInt8)) (s0 s1 : List UInt8) : Prop where
  size : 2 ≤ D.size
  since : D.since = l
  s0 : D.safe 0 = s0
  s1 : D.safe 1 = s1
  l0 : D.lost 0 = false
  l1 : D.lost 1 = false
theorem setF2 {α : Type} (f : Int → α) (k : Int) (v : α) (hk : k = 0 ∨ k = 1) : setF f k v 0 = (if k = 0 then v else f 0) ∧ setF f k v 1 = (if k = 1 then v else f 1) := by
  rcases hk with rfl | rfl
  · exact ⟨setF_same _ _ _, setF_other _ _ _ _ (by omega)⟩
  · exact ⟨setF_other _ _ _ _ (by omega), setF_same _ _ _⟩
/-- A phase of Put, with so many operations left. -/
theorem ph_f {D : Dv} {s0 s1 : List UInt8} (h : L3 D [] s0 s1) (hd : D.down = false) {k : Int} (hk : k = 0 ∨ k = 1) {r : Rc} (hr : putE r = 0) {f : Int} (hf : D.fall = f) (f0 : 0 ≤ f) :
    (f = 0 ∧ phE k r D ≠ 0 ∧ L3 (phD k r D) [] s0 s1) ∨ (f = 1 ∧ phE k r D ≠ 0 ∧ L3 (phD k r D) [(k, putV r)] s0 s1) ∨
    (2 ≤ f ∧ phE k r D = 0 ∧ L3 (phD k r D) [] (if k = 0 then putV r else s0) (if k = 1 then putV r else s1) ∧ (phD k r D).down = false ∧ (phD k r D).fall = f - 2) := by
  have hsz := h.size
  have hle := putV_le r
  by_cases h0 : f = 0
  · left
    have t5 : turnE D = 5 := by rw [turnE, if_pos (.inr (by omega))]
    have hw : writeE k (putV r) D = 5 := by rw [writeE, if_pos t5]
    have hE : swE k r D = 5 := by rw [swE, if_pos hr, hw]
    have hD : swD k r D = { D with down := true } := by rw [swD, if_pos hr, writeD, hw, if_neg (by decide), turnD, if_neg (by rw [hd]; decide), if_pos (by omega)]
    obtain ⟨e1, e2⟩ := phE_of hE (by decide)
    refine ⟨h0, by rw [e1]; decide, ?_⟩
    rw [e2, hD]
    exact ⟨h.size, h.since, h.s0, h.s1, h.l0, h.l1⟩
  · have t0 : turnE D = 0 := by rw [turnE, if_neg (by rw [hd, hf]; simp; omega)]
    have hT : turnD D = { D with fall := f - 1 } := by rw [turnD, if_neg (by rw [hd]; decide), if_neg (by omega), if_pos (by omega), hf]
    have hw : writeE k (putV r) D = 0 := writeE_zero t0 (by omega) (by omega) hle
    have hE : swE k r D = 0 := by rw [swE, if_pos hr, hw]
    have hD : swD k r D = addD k (putV r) { D with fall := f - 1 } := by rw [swD, if_pos hr, writeD, if_pos hw, hT]
    obtain ⟨e1, e2⟩ := phE_of0 hE
    obtain ⟨l0, l1⟩ := setF2 D.lost k false hk
    by_cases h1 : f = 1
    · right; left
      have t5 : turnE (swD k r D) = 5 := by rw [hD, turnE, if_pos (.inr (by show f - 1 = 0; omega))]
      have hF : flushD (swD k r D) = { addD k (putV r) { D with fall := f - 1 } with down := true } := by
        rw [flushD, if_pos t5, hD, turnD, if_neg (by show ¬ D.down = true; rw [hd]; decide), if_pos (by show f - 1 = 0; omega)]
      refine ⟨h1, by rw [e1, t5]; decide, ?_⟩
      rw [e2, hF]
      refine ⟨h.size, ?_, h.s0, h.s1, ?_, ?_⟩
      · show D.since ++ _ = _; rw [h.since]; rfl
      · show setF D.lost k false 0 = false; rw [l0, h.l0]; simp
      · show setF D.lost k false 1 = false; rw [l1, h.l1]; simp
    · right; right
      have t00 : turnE (swD k r D) = 0 := by rw [hD, turnE, if_neg (by show ¬ (D.down = true ∨ f - 1 = 0); rw [hd]; simp; omega)]
      have hT2 : turnD (addD k (putV r) { D with fall := f - 1 }) = addD k (putV r) { D with fall := f - 1 - 1 } := by
        rw [turnD, if_neg (by show ¬ D.down = true; rw [hd]; decide), if_neg (by show ¬ f - 1 = 0; omega), if_pos (by show 0 < f - 1; omega)]; rfl
      have hF : flushD (swD k r D) = { putsD [(k, putV r)] (addD k (putV r) { D with fall := f - 1 - 1 }) with since := [] } := by
        rw [flushD, t00, if_neg (by decide), hD, hT2]
        have : (addD k (putV r) { D with fall := f - 1 }).since = [(k, putV r)] := by show D.since ++ _ = _; rw [h.since]; rfl
        rw [this]
      obtain ⟨v0, v1⟩ := setF2 D.safe k (putV r) hk
      refine ⟨by omega, by rw [e1, t00], ?_⟩
      rw [e2, hF]
      refine ⟨⟨h.size, rfl, ?_, ?_, ?_, ?_⟩, hd, by show f - 1 - 1 = f - 2; omega⟩
      · show setF D.safe k (putV r) 0 = _; rw [v0, h.s0]
      · show setF D.safe k (putV r) 1 = _; rw [v1, h.s1]
      · show setF D.lost k false 0 = false; rw [l0, h.l0]; simp
      · show setF D.lost k false 1 = false; rw [l1, h.l1]; simp
/-- Put, whenever the power fails. -/
theorem put_f {D : Dv} {A : List UInt8} (h : L3 D [] A A) (hd : D.down = false) {n : Int} (hf : D.fall = n) (n0 : 0 ≤ n) {t : Int} {b : Hd} (hm : hdMay t b) (t0 : 0 ≤ t) :
    L3 (putHD t b D) [] A A ∨ L3 (putHD t b D) [(0, putV (hdRec (t + 1) b))] A A ∨ L3 (putHD t b D) [] (putV (hdRec (t + 1) b)) A ∨ L3 (putHD t b D) [(1, putV (hdRec (t + 1) b))] (putV (hdRec (t + 1) b)) A ∨ L3 (putHD t b D) [] (putV (hdRec (t + 1) b)) (putV (hdRec (t + 1) b)) := by
  have hp : putE (hdRec (t + 1) b) = 0 := hdRec_put hm.1 (by omega) (by have := hm.2; omega)
  have e1 : phE (0 : Nat) (hdRec (t + 1) b) (phK (hdRec (t + 1) b) D 0) ≠ 0 → putHD t b D = phD 0 (hdRec (t + 1) b) D := fun he => (putH_err hm 0 (by omega) (by omega) he).2
  rcases ph_f h hd (k := 0) (.inl rfl) hp hf n0 with ⟨_, a1, a2⟩ | ⟨_, a1, a2⟩ | ⟨_, a1, a2, a3, a4⟩
  · rw [e1 a1]; exact .inl a2
  · rw [e1 a1]; exact .inr (.inl a2)
  · rw [if_pos rfl, if_neg (by omega)] at a2
    have e2 : phE (1 : Nat) (hdRec (t + 1) b) (phK (hdRec (t + 1) b) D 1) ≠ 0 → putHD t b D = phD 1 (hdRec (t + 1) b) (phD 0 (hdRec (t + 1) b) D) := fun he => (putH_err hm 1 (by omega) (fun j hj => by
      obtain rfl : j = 0 := by omega
      exact a1) he).2
    rcases ph_f a2 a3 (k := 1) (.inr rfl) hp a4 (by omega) with ⟨_, b1, b2⟩ | ⟨_, b1, b2⟩ | ⟨_, b1, b2, _⟩
    · rw [e2 b1]; exact .inr (.inr (.inl b2))
    · rw [e2 b1]; exact .inr (.inr (.inr (.inl b2)))
    · rw [if_neg (by omega), if_pos rfl] at b2
      have e3 : putHD t b D = phD 1 (hdRec (t + 1) b) (phD 0 (hdRec (t + 1) b) D) := (putH_ok (D := D) hm (fun j hj => by
        match j, hj with
        | 0, _ => exact a1
        | 1, _ => exact b1)).2
      rw [e3]; exact .inr (.inr (.inr (.inr b2)))
theorem crash_nil {D : Dv} {s0 s1 : List UInt8} (h : L3 D [] s0 s1) (fs : List Int) : Two (crashD fs D) ∧ L3 (crashD fs D) [] s0 s1 := by
  have e : crashD fs D = bareD D := by rw [crashD, h.since]; rfl
  have hsz := h.size
  have hs2 : 2 ≤ min (max D.size 0) 4096 := by omega
  rw [e]
  exact ⟨⟨⟨rfl, rfl⟩, rfl, hs2⟩, ⟨hs2, rfl, h.s0, h.s1, h.l0, h.l1⟩⟩
theorem crash_one {D : Dv} {s0 s1 v : List UInt8} {k : Int} (hk : k = 0 ∨ k = 1) (h : L3 D [(k, v)] s0 s1) (fs : List Int) : Two (crashD fs D) ∧
    (L3 (crashD fs D) [] s0 s1 ∨ L3 (crashD fs D) [] (if k = 0 then v else s0) (if k = 1 then v else s1) ∨ L3 (crashD fs D) [] (if k = 0 then v.take (v.length / 2) else s0) (if k = 1 then v.take (v.length / 2) else s1)) := by
  have e : crashD fs D = fateD (fs.getD 0 0) (k, v) (bareD D) := by rw [crashD, h.since]; rfl
  have hsz := h.size
  have hs2 : 2 ≤ min (max D.size 0) 4096 := by omega
  obtain ⟨v0, v1⟩ := setF2 D.safe k v hk
  obtain ⟨u0, u1⟩ := setF2 D.safe k (v.take (v.length / 2)) hk
  rw [e, fateD]
  split
  · refine ⟨⟨⟨rfl, rfl⟩, rfl, hs2⟩, .inr (.inl ⟨hs2, rfl, ?_, ?_, h.l0, h.l1⟩)⟩
    · show setF D.safe k v 0 = _; rw [v0, h.s0]
    · show setF D.safe k v 1 = _; rw [v1, h.s1]
  · split
    · refine ⟨⟨⟨rfl, rfl⟩, rfl, hs2⟩, .inr (.inr ⟨hs2, rfl, ?_, ?_, h.l0, h.l1⟩)⟩
      · show setF D.safe k (v.take (v.length / 2)) 0 = _; rw [u0, h.s0]
      · show setF D.safe k (v.take (v.length / 2)) 1 = _; rw [u1, h.s1]
    · exact ⟨⟨⟨rfl, rfl⟩, rfl, hs2⟩, .inl ⟨hs2, rfl, h.s0, h.s1, h.l0, h.l1⟩⟩

/-- What Open and Scrub make of a device. -/
def scD (t : Int) (h : Hd) (D : Dv) : Dv := if scPut t h D then putHD t h D else D
/-- Scrub has made both copies the same. -/
structure Mended (D : Dv) (t : Int) (h : Hd) : Prop where
  opens : openE D = 0 ∧ (osK D 2).h = h ∧ (osK D 2).turn = t
  t0 : 0 ≤ t
  t1 : t ≤ 281474976710655
  since : D.since.length ≤ 900000
  fine : if scPut t h D then putHE t h D = 0 else scE D = 0
  again : ∃ v, L3 (scD t h D) [] v v ∧ ∃ u, 0 ≤ u ∧ u ≤ 281474976710655 ∧ v = putV (hdRec u h)
theorem mended_put {D : Dv} (h2 : Two D) {t : Int} {h : Hd} (hr : h.right) (t0 : 0 < t) (t1 : t ≤ 10) (ho : openE D = 0 ∧ (osK D 2).h = h ∧ (osK D 2).turn = t) (hs : scPut t h D) : Mended D t h := by
  obtain ⟨a, b, _⟩ := put_two h2 (t := t) (hd := h) ⟨hr, by omega⟩ (by omega)
  refine ⟨ho, by omega, by omega, by rw [h2.since]; simp, by rw [if_pos hs]; exact a, putV (hdRec (t + 1) h), ?_, t + 1, by omega, by omega, rfl⟩
  rw [scD, if_pos hs]
  exact ⟨b.two.size, b.two.since, b.safe.1, b.safe.2, b.lost.1, b.lost.2⟩
theorem mended_same {D : Dv} (h2 : Two D) {t : Int} {h : Hd} (hr : h.right) (t0 : 0 < t) (t1 : t ≤ 10) (hl : L3 D [] (putV (hdRec t h)) (putV (hdRec t h))) : Mended D t h := by
  have c0 := cp_good h2 (k := 0) (by omega) (by omega) hl.l0 hr (by omega) (by omega) hl.s0
  have c1 := cp_good h2 (k := 1) (by omega) (by omega) hl.l1 hr (by omega) (by omega) hl.s1
  obtain ⟨n1, n2⟩ := sc_gg c0 c1
  refine ⟨open_gg c0 c1 (by omega), by omega, by omega, by rw [h2.since]; simp, by rw [if_neg n1]; exact n2, putV (hdRec t h), ?_, t, by omega, by omega, rfl⟩
  rw [scD, if_neg n1]; exact hl
theorem again_ok {a b : Hd} (ha : a.right) (hb : b.right) (n : Int) (n0 : 0 ≤ n) (fs : List Int) : ∃ t h, (h = a ∨ h = b) ∧ Mended (crashD fs (putHD 1 b (fallD n (putHD 0 a (newD 2))))) t h := by
  obtain ⟨_, g, _⟩ := put_two (Two.new 2 (by decide)) (t := 0) (hd := a) ⟨ha, by decide⟩ (by decide)
  have hA := hdRec_put ha (by omega : (0 : Int) ≤ 1) (by omega)
  have hB := hdRec_put hb (by omega : (0 : Int) ≤ 2) (by omega)
  have lA := putV_len hA
  have lB := putV_len hB
  have h3 : L3 (fallD n (putHD 0 a (newD 2))) [] (putV (hdRec 1 a)) (putV (hdRec 1 a)) := ⟨g.two.size, g.two.since, g.safe.1, g.safe.2, g.lost.1, g.lost.2⟩
  have hf : (fallD n (putHD 0 a (newD 2))).fall = n := by show max n 0 = n; omega
  have hp := put_f h3 g.two.live.down hf n0 (t := 1) (b := b) ⟨hb, by decide⟩ (by decide)
  rw [show (1 : Int) + 1 = 2 from rfl] at hp
  obtain ⟨D, hD⟩ : ∃ D, D = putHD 1 b (fallD n (putHD 0 a (newD 2))) := ⟨_, rfl⟩
  rw [← hD] at hp ⊢
  clear hD h3 hf g
  have tail : ∀ D4 : Dv, Two D4 → (L3 D4 [] (putV (hdRec 1 a)) (putV (hdRec 1 a)) ∨ L3 D4 [] (putV (hdRec 2 b)) (putV (hdRec 1 a)) ∨ (∃ v, getS v = 2 ∧ L3 D4 [] v (putV (hdRec 1 a))) ∨ L3 D4 [] (putV (hdRec 2 b)) (putV (hdRec 2 b)) ∨ (∃ v, getS v = 2 ∧ L3 D4 [] (putV (hdRec 2 b)) v)) → ∃ t h, (h = a ∨ h = b) ∧ Mended D4 t h := by
    intro D4 h2 hc
    rcases hc with hl | hl | ⟨v, hv, hl⟩ | hl | ⟨v, hv, hl⟩
    · exact ⟨1, a, .inl rfl, mended_same h2 ha (by decide) (by decide) hl⟩
    · have c0 := cp_good h2 (k := 0) (by omega) (by omega) hl.l0 hb (by omega) (by omega) hl.s0
      have c1 := cp_good h2 (k := 1) (by omega) (by omega) hl.l1 ha (by omega) (by omega) hl.s1
      exact ⟨2, b, .inr rfl, mended_put h2 hb (by decide) (by decide) (open_gg c0 c1 (by decide)) (sc_second (by decide) c0 (by rw [c1]; rfl) (by rw [c1]; simp [Cp.good]))⟩
    · have c0 := cp_badS h2 (k := 0) (by omega) (by omega) hl.l0 (by rw [hl.s0]; exact hv)
      have c1 := cp_good h2 (k := 1) (by omega) (by omega) hl.l1 ha (by omega) (by omega) hl.s1
      exact ⟨1, a, .inl rfl, mended_put h2 ha (by decide) (by decide) (open_bg c0 c1) (sc_first (by decide) (by rw [c0]; rfl) (by rw [c0]; simp [Cp.good, Cp.bad]))⟩
    · exact ⟨2, b, .inr rfl, mended_same h2 hb (by decide) (by decide) hl⟩
    · have c0 := cp_good h2 (k := 0) (by omega) (by omega) hl.l0 hb (by omega) (by omega) hl.s0
      have c1 := cp_badS h2 (k := 1) (by omega) (by omega) hl.l1 (by rw [hl.s1]; exact hv)
      exact ⟨2, b, .inr rfl, mended_put h2 hb (by decide) (by decide) (open_gb c0 c1) (sc_second (by decide) c0 (by rw [c1]; rfl) (by rw [c1]; simp [Cp.good, Cp.bad]))⟩
  have torn : getS ((putV (hdRec 2 b)).take ((putV (hdRec 2 b)).length / 2)) = 2 := torn_bad hB _ (by omega) (by omega)
  rcases hp with hp | hp | hp | hp | hp
  · obtain ⟨a1, a2⟩ := crash_nil hp fs
    exact tail _ a1 (.inl a2)
  · obtain ⟨a1, a2⟩ := crash_one (.inl rfl) hp fs
    simp only [if_true, if_neg (show ¬ (0 : Int) = 1 by omega)] at a2
    rcases a2 with a2 | a2 | a2
    · exact tail _ a1 (.inl a2)
    · exact tail _ a1 (.inr (.inl a2))
    · exact tail _ a1 (.inr (.inr (.inl ⟨_, torn, a2⟩)))
  · obtain ⟨a1, a2⟩ := crash_nil hp fs
    exact tail _ a1 (.inr (.inl a2))
  · obtain ⟨a1, a2⟩ := crash_one (.inr rfl) hp fs
    simp only [if_true, if_neg (show ¬ (1 : Int) = 0 by omega)] at a2
    rcases a2 with a2 | a2 | a2
    · exact tail _ a1 (.inr (.inl a2))
    · exact tail _ a1 (.inr (.inr (.inr (.inl a2))))
    · exact tail _ a1 (.inr (.inr (.inr (.inr ⟨_, torn, a2⟩))))
  · obtain ⟨a1, a2⟩ := crash_nil hp fs
    exact tail _ a1 (.inr (.inr (.inr (.inl a2))))
/-- From then on one copy is enough. -/
theorem one_enough {D : Dv} {h : Hd} (hr : h.right) (hm : ∃ v, L3 D [] v v ∧ ∃ u, 0 ≤ u ∧ u ≤ 281474976710655 ∧ v = putV (hdRec u h)) {k : Int} (hk : k = 0 ∨ k = 1) :
    ∃ u, openE (loseD k (crashD [] D)) = 0 ∧ (osK (loseD k (crashD [] D)) 2).h = h ∧ (osK (loseD k (crashD [] D)) 2).turn = u := by
  obtain ⟨v, hl, u, u0, u1, rfl⟩ := hm
  obtain ⟨a1, a2⟩ := crash_nil hl []
  refine ⟨u, ?_⟩
  obtain ⟨b1, b2, b3, _⟩ := lose_eq a1 (k := k) (by omega) (by omega)
  rcases hk with rfl | rfl
  · exact open_bg (cp_lost b1 (by omega) (by omega) (by rw [b3]; exact setF_same _ _ _)) (cp_good b1 (by omega) (by omega) (by rw [b3]; exact (setF_other _ _ _ _ (by omega)).trans a2.l1) hr u0 u1 (by rw [b2]; exact a2.s1))
  · exact open_gb (cp_good b1 (by omega) (by omega) (by rw [b3]; exact (setF_other _ _ _ _ (by omega)).trans a2.l0) hr u0 u1 (by rw [b2]; exact a2.s0)) (cp_lost b1 (by omega) (by omega) (by rw [b3]; exact setF_same _ _ _))
end Go.Proofs.Ytpnfgkgloioddaa
