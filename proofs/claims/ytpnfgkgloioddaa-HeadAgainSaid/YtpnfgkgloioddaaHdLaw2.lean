/- Plain laws of a head's copies on a device. No program in sight. -/
import Derived.Test.YtpnfgkgloioddaaHdScr
import Derived.Test.YtpnfgkgloioddaaBlkLaw
namespace Go.Proofs.Ytpnfgkgloioddaa
set_option linter.unusedVariables false

def Cp.bad : Cp := ⟨Hd.zero, 0, 2, 0⟩
def Cp.none : Cp := ⟨Hd.zero, 0, 0, 0⟩
def Cp.good (t : Int) (h : Hd) : Cp := ⟨h, t, 1, 0⟩
/-- A device with power, flushed, of two blocks or more. -/
structure Two (D : Dv) : Prop where
  live : Live D
  since : D.since = []
  size : 2 ≤ D.size
theorem Two.new (n : Int) (h : 2 ≤ n) : Two (newD n) := ⟨Live.new n, rfl, by show 2 ≤ min (max n 0) 4096; omega⟩
theorem cp_two {D : Dv} (h : Two D) {k : Int} (h0 : 0 ≤ k) (h1 : k < 2) :
    cpOf k D = if D.lost k = true then Cp.bad else if getS (D.safe k) = 1 then cpRec (getR (D.safe k)) else ⟨Hd.zero, 0, getS (D.safe k), 0⟩ := by
  have hsz := h.size
  have hre := readE_live h.live h0 (by omega)
  by_cases hl : D.lost k = true
  · rw [hl, if_pos rfl] at hre
    rw [if_pos hl, cpOf, srE, srS, hre]; rfl
  · rw [if_neg hl] at hre ⊢
    have hv : readV k D = D.safe k := by rw [readV, if_pos hre, contD, h.since]; rfl
    rw [cpOf, srE, srS, srR, hre, hv]
    simp
theorem cp_lost {D : Dv} (h : Two D) {k : Int} (h0 : 0 ≤ k) (h1 : k < 2) (hl : D.lost k = true) : cpOf k D = Cp.bad := by rw [cp_two h h0 h1, if_pos hl]
theorem cp_badS {D : Dv} (h : Two D) {k : Int} (h0 : 0 ≤ k) (h1 : k < 2) (hl : D.lost k = false) (hg : getS (D.safe k) = 2) : cpOf k D = Cp.bad := by
  rw [cp_two h h0 h1, hl, hg]; rfl
theorem cp_none {D : Dv} (h : Two D) {k : Int} (h0 : 0 ≤ k) (h1 : k < 2) (hl : D.lost k = false) (hg : D.safe k = []) : cpOf k D = Cp.none := by
  rw [cp_two h h0 h1, hl, hg]; rfl
theorem cp_good {D : Dv} (h : Two D) {k : Int} (h0 : 0 ≤ k) (h1 : k < 2) (hl : D.lost k = false) {t : Int} {hd : Hd} (hr : hd.right) (t0 : 0 ≤ t) (t1 : t ≤ 281474976710655) (hg : D.safe k = putV (hdRec t hd)) : cpOf k D = Cp.good t hd := by
  have hp := hdRec_put hr t0 t1
  obtain ⟨a, b⟩ := get_put hp
  rw [cp_two h h0 h1, hl, hg, a, b, cpRec_hd hr]; rfl

theorem ph_two {D : Dv} (h : Two D) {k : Int} {r : Rc} (h0 : 0 ≤ k) (h1 : k < 2) (hr : putE r = 0) :
    phE k r D = 0 ∧ Two (phD k r D) ∧ (phD k r D).size = D.size ∧ (phD k r D).safe = setF D.safe k (putV r) ∧ (phD k r D).lost = setF D.lost k false ∧ (phD k r D).hurt = setF D.hurt k false := by
  have hsz := h.size
  have hE : swE k r D = 0 := by rw [swE_zero h.live.turnE h0 (by omega), hr]
  have hD : swD k r D = addD k (putV r) D := h.live.swD h0 (by omega) hr
  obtain ⟨e1, e2⟩ := phE_of0 hE
  have hl := h.live.add k (putV r)
  have hf : flushD (addD k (putV r) D) = { putsD [(k, putV r)] (addD k (putV r) D) with since := [] } := by
    rw [hl.flushD]
    have : (addD k (putV r) D).since = [(k, putV r)] := by show D.since ++ _ = _; rw [h.since]; rfl
    rw [this]
  rw [e1, e2, hD, hf]
  exact ⟨hl.turnE, ⟨⟨h.live.fall, h.live.down⟩, rfl, h.size⟩, rfl, rfl, rfl, rfl⟩

/-- Both copies are good, and none was hurt. -/
structure Good2 (D : Dv) (t : Int) (hd : Hd) : Prop where
  two : Two D
  safe : D.safe 0 = putV (hdRec t hd) ∧ D.safe 1 = putV (hdRec t hd)
  lost : D.lost 0 = false ∧ D.lost 1 = false
  hurt : D.hurt 0 = false ∧ D.hurt 1 = false
theorem put_two {D : Dv} (h : Two D) {t : Int} {hd : Hd} (hm : hdMay t hd) (t0 : 0 ≤ t) : putHE t hd D = 0 ∧ Good2 (putHD t hd D) (t + 1) hd ∧ (putHD t hd D).size = D.size := by
  have hp : putE (hdRec (t + 1) hd) = 0 := hdRec_put hm.1 (by omega) (by have := hm.2; omega)
  obtain ⟨a1, a2, a3, a4, a5, a6⟩ := ph_two h (k := 0) (by omega) (by omega) hp
  obtain ⟨b1, b2, b3, b4, b5, b6⟩ := ph_two a2 (k := 1) (by omega) (by omega) hp
  obtain ⟨e1, e2⟩ := putH_ok (D := D) hm (fun j hj => by
    match j, hj with
    | 0, _ => exact a1
    | 1, _ => exact b1)
  have e3 : putHD t hd D = phD 1 (hdRec (t + 1) hd) (phD 0 (hdRec (t + 1) hd) D) := e2
  rw [e3]
  refine ⟨e1, ⟨b2, ?_, ?_, ?_⟩, b3.trans a3⟩
  · rw [b4, a4]; exact ⟨by rw [setF_other _ _ _ _ (by omega), setF_same], setF_same _ _ _⟩
  · rw [b5, a5]; exact ⟨by rw [setF_other _ _ _ _ (by omega), setF_same], setF_same _ _ _⟩
  · rw [b6, a6]; exact ⟨by rw [setF_other _ _ _ _ (by omega), setF_same], setF_same _ _ _⟩
theorem Good2.cp {D : Dv} {t : Int} {hd : Hd} (h : Good2 D t hd) (hr : hd.right) (t0 : 0 ≤ t) (t1 : t ≤ 281474976710655) : cpOf 0 D = Cp.good t hd ∧ cpOf 1 D = Cp.good t hd :=
  ⟨cp_good h.two (by omega) (by omega) h.lost.1 hr t0 t1 h.safe.1, cp_good h.two (by omega) (by omega) h.lost.2 hr t0 t1 h.safe.2⟩

theorem lose_eq {D : Dv} (h : Two D) {k : Int} (h0 : 0 ≤ k) (h1 : k < 2) : Two (loseD k D) ∧ (loseD k D).safe = D.safe ∧ (loseD k D).lost = setF D.lost k true ∧ (loseD k D).hurt = D.hurt ∧ (loseD k D).size = D.size := by
  have hsz := h.size
  have e : loseD k D = ⟨D.size, D.safe, D.since, setF D.lost k true, D.hurt, D.fall, D.down⟩ := by rw [loseD, if_pos (by omega)]
  rw [e]
  exact ⟨⟨⟨h.live.fall, h.live.down⟩, h.since, h.size⟩, rfl, rfl, rfl, rfl⟩
theorem Good2.lose0 {D : Dv} {t : Int} {hd : Hd} (h : Good2 D t hd) (hr : hd.right) (t0 : 0 ≤ t) (t1 : t ≤ 281474976710655) : cpOf 0 (loseD 0 D) = Cp.bad ∧ cpOf 1 (loseD 0 D) = Cp.good t hd := by
  obtain ⟨a, b, c, _⟩ := lose_eq h.two (k := 0) (by omega) (by omega)
  exact ⟨cp_lost a (by omega) (by omega) (by rw [c]; exact setF_same _ _ _), cp_good a (by omega) (by omega) (by rw [c]; exact (setF_other _ _ _ _ (by omega)).trans h.lost.2) hr t0 t1 (by rw [b]; exact h.safe.2)⟩
theorem Good2.lose1 {D : Dv} {t : Int} {hd : Hd} (h : Good2 D t hd) (hr : hd.right) (t0 : 0 ≤ t) (t1 : t ≤ 281474976710655) : cpOf 0 (loseD 1 D) = Cp.good t hd ∧ cpOf 1 (loseD 1 D) = Cp.bad := by
  obtain ⟨a, b, c, _⟩ := lose_eq h.two (k := 1) (by omega) (by omega)
  exact ⟨cp_good a (by omega) (by omega) (by rw [c]; exact (setF_other _ _ _ _ (by omega)).trans h.lost.1) hr t0 t1 (by rw [b]; exact h.safe.1), cp_lost a (by omega) (by omega) (by rw [c]; exact setF_same _ _ _)⟩

/-! What Open makes of two copies. -/
def opOf (c0 c1 : Cp) : Os := opStep c1 (opStep c0 os0)
theorem osK_two (D : Dv) : osK D 2 = opOf (cpOf 0 D) (cpOf 1 D) := rfl
theorem open_gb {D : Dv} {t : Int} {hd : Hd} (h0 : cpOf 0 D = Cp.good t hd) (h1 : cpOf 1 D = Cp.bad) : openE D = 0 ∧ (osK D 2).h = hd ∧ (osK D 2).turn = t := by
  simp [openE, osK_two, opOf, opStep, os0, h0, h1, Cp.good, Cp.bad]
theorem open_bg {D : Dv} {t : Int} {hd : Hd} (h0 : cpOf 0 D = Cp.bad) (h1 : cpOf 1 D = Cp.good t hd) : openE D = 0 ∧ (osK D 2).h = hd ∧ (osK D 2).turn = t := by
  simp [openE, osK_two, opOf, opStep, os0, h0, h1, Cp.good, Cp.bad]
theorem open_gg {D : Dv} {t u : Int} {a b : Hd} (h0 : cpOf 0 D = Cp.good t a) (h1 : cpOf 1 D = Cp.good u b) (hut : u ≤ t) : openE D = 0 ∧ (osK D 2).h = a ∧ (osK D 2).turn = t := by
  have : ¬ t < u := by omega
  simp [openE, osK_two, opOf, opStep, os0, h0, h1, Cp.good, this]
theorem open_nn {D : Dv} (h0 : cpOf 0 D = Cp.none) (h1 : cpOf 1 D = Cp.none) : openE D = 0 ∧ (osK D 2).h = Hd.one ∧ (osK D 2).turn = 0 := by
  simp [openE, osK_two, opOf, opStep, os0, h0, h1, Cp.none]
theorem open_bb {D : Dv} (h0 : cpOf 0 D = Cp.bad) (h1 : cpOf 1 D = Cp.bad) : openE D = 6 := by
  simp [openE, osK_two, opOf, opStep, os0, h0, h1, Cp.bad]
theorem open_new {n : Int} (h : 2 ≤ n) : openE (newD n) = 0 ∧ (osK (newD n) 2).h = Hd.one ∧ (osK (newD n) 2).turn = 0 :=
  open_nn (cp_none (Two.new n h) (by omega) (by omega) rfl rfl) (cp_none (Two.new n h) (by omega) (by omega) rfl rfl)
theorem sc_gg {D : Dv} {t : Int} {hd : Hd} (h0 : cpOf 0 D = Cp.good t hd) (h1 : cpOf 1 D = Cp.good t hd) : ¬ scPut t hd D ∧ scE D = 0 := by
  simp [scPut, scE, scBad, h0, h1, Cp.good]
theorem sc_nn {D : Dv} {hd : Hd} (h0 : cpOf 0 D = Cp.none) (h1 : cpOf 1 D = Cp.none) : ¬ scPut 0 hd D ∧ scE D = 0 := by
  simp [scPut, scE, scBad, h0, h1, Cp.none]
theorem sc_first {D : Dv} {t : Int} {hd : Hd} (ht : 0 < t) (h0 : (cpOf 0 D).e = 0) (h1 : cpOf 0 D ≠ Cp.good t hd) : scPut t hd D := by
  refine ⟨h0, .inl ⟨ht, ?_⟩⟩
  generalize cpOf 0 D = c at *
  obtain ⟨a, b, s, e⟩ := c
  simp only at h0
  subst h0
  by_cases e1 : s = 1
  · by_cases e2 : a = hd
    · by_cases e3 : b = t
      · subst e1; subst e2; subst e3; exact absurd rfl h1
      · exact .inr (.inr e3)
    · exact .inr (.inl e2)
  · exact .inl e1
theorem sc_second {D : Dv} {t : Int} {hd : Hd} (ht : 0 < t) (h0 : cpOf 0 D = Cp.good t hd) (h2 : (cpOf 1 D).e = 0) (h1 : cpOf 1 D ≠ Cp.good t hd) : scPut t hd D := by
  refine ⟨by rw [h0]; rfl, .inr ⟨h2, ht, ?_⟩⟩
  generalize cpOf 1 D = c at *
  obtain ⟨a, b, s, e⟩ := c
  simp only at h2
  subst h2
  by_cases e1 : s = 1
  · by_cases e2 : a = hd
    · by_cases e3 : b = t
      · subst e1; subst e2; subst e3; exact absurd rfl h1
      · exact .inr (.inr e3)
    · exact .inr (.inl e2)
  · exact .inl e1

/-! A device without power. -/
theorem cp_down {D : Dv} (h : D.down = true) (k : Int) : cpOf k D = ⟨Hd.zero, 0, 0, 5⟩ := by
  have : readE k D = 5 := by rw [readE, if_pos h]
  rw [cpOf, srE, srS, this]; rfl
theorem open_down {D : Dv} (h : D.down = true) : openE D = 5 := by
  unfold openE; rw [cp_down h]; rfl
theorem sc_down {D : Dv} (h : D.down = true) {t : Int} {hd : Hd} : ¬ scPut t hd D ∧ scE D = 5 := by
  unfold scPut scE; rw [cp_down h]; simp
theorem put_fall0 {D : Dv} (h : Live D) {t : Int} {hd : Hd} (hm : hdMay t hd) (t0 : 0 ≤ t) : putHE t hd (fallD 0 D) = 5 ∧ (putHD t hd (fallD 0 D)).down = true := by
  have hp : putE (hdRec (t + 1) hd) = 0 := hdRec_put hm.1 (by omega) (by have := hm.2; omega)
  have f0 : (fallD 0 D).fall = 0 := rfl
  have t5 : turnE (fallD 0 D) = 5 := by rw [turnE, if_pos (.inr f0)]
  have hw : writeE 0 (putV (hdRec (t + 1) hd)) (fallD 0 D) = 5 := by rw [writeE, if_pos t5]
  have hE : swE 0 (hdRec (t + 1) hd) (fallD 0 D) = 5 := by rw [swE, if_pos hp, hw]
  have hD : swD 0 (hdRec (t + 1) hd) (fallD 0 D) = { fallD 0 D with down := true } := by
    rw [swD, if_pos hp, writeD, hw, if_neg (by decide), turnD, if_neg (by show ¬ D.down = true; rw [h.down]; decide), if_pos f0]
  obtain ⟨e1, e2⟩ := phE_of hE (by decide)
  obtain ⟨g1, g2⟩ := putH_err (D := fallD 0 D) hm 0 (by omega) (by omega) (by show phE 0 _ (fallD 0 D) ≠ 0; rw [e1]; decide)
  refine ⟨g1.trans e1, ?_⟩
  rw [g2]
  show (phD 0 _ (fallD 0 D)).down = true
  rw [e2, hD]
end Go.Proofs.Ytpnfgkgloioddaa
