/- Plain laws of layer 4 over a device: torn, flipped, lost. No program in sight. -/
import Derived.Test.YtmjgbkepngeckaaDevO
import Derived.Test.YtmjgbkepngeckaaSealLaw
namespace Go.Proofs.Ytmjgbkepngeckaa
set_option linter.unusedVariables false

theorem putV_seal {r : Rc} (h : putE r = 0) : putV r = sealB (recB r) := if_pos h
theorem putV_drop {r : Rc} (h : putE r = 0) : (putV r).drop 4 = recB r := by rw [putV_seal h, sealB_drop]
theorem putV_len {r : Rc} (h : putE r = 0) : (putV r).length = r.data.length + 24 := by
  rw [putV_seal h, sealB_length, recB_le r (putE_ok h).2]
/-- A part of what was put is bad. -/
theorem torn_bad {r : Rc} (h : putE r = 0) (n : Nat) (h0 : 0 < n) (hn : n < (putV r).length) : getS ((putV r).take n) = 2 := by
  rcases getS_cases ((putV r).take n) with h1 | h1 | h1
  · exfalso
    unfold getS at h1
    split at h1
    · rename_i he
      have := congrArg List.length he
      rw [List.length_take, List.length_nil] at this
      omega
    · split at h1 <;> cases h1
  · exfalso
    obtain ⟨p1, p2⟩ := put_get h1
    obtain ⟨r', hr'⟩ : ∃ x, x = getR ((putV r).take n) := ⟨_, rfl⟩
    rw [← hr'] at p1 p2
    have hl := congrArg List.length p2
    rw [List.length_take, putV_len p1] at hl
    have hd := congrArg (List.drop 4) p2
    rw [putV_drop p1] at hd
    have hw : recB r = recB r' ++ (putV r).drop n := by
      rw [← putV_drop h, hd]
      conv => lhs; rw [← List.take_append_drop n (putV r)]
      rw [List.drop_append_of_le_length (by rw [List.length_take]; omega)]
    obtain ⟨a1, a2⟩ := putE_ok h
    obtain ⟨b1, b2⟩ := putE_ok p1
    have e1 := readRc_recB r a1 a2 []
    have e2 := readRc_recB r' b1 b2 ((putV r).drop n)
    rw [← hw, ← List.append_nil (recB r), e1] at e2
    have e3 := congrArg (fun x => x.2.1.length) e2
    simp at e3
    omega
  · exact h1
theorem getS_bad (s : List UInt8) (h0 : s ≠ []) (ho : opens s = false) : getS s = 2 := by
  rw [getS, if_neg h0, ho, if_neg (by simp)]
theorem len_ne {s : List UInt8} (h : 0 < s.length) : s ≠ [] := by rintro rfl; cases h
theorem mix_zero (L : List UInt8) (A T k : Nat) (hA : A + k ≤ L.length) (h : ∀ j, j < k → tb T j = 0) : mix L A T k = L := by
  induction k with
  | zero => rfl
  | succ k ih =>
    rw [mix, ih (by omega) (fun j hj => h j (by omega)), h k (by omega), UInt8.xor_zero]
    apply List.ext_getElem?
    intro i
    rw [List.getElem?_set]
    split
    · rename_i e; subst e
      split
      · rename_i hl; simp [List.getD, hl]
      · rename_i hl; simp; omega
    · rfl
theorem mix_step (L : List UInt8) (A T k : Nat) (hA : A + k < L.length) (h : tb T k = 0) : mix L A T (k + 1) = mix L A T k := by
  rw [mix, h, UInt8.xor_zero]
  apply List.ext_getElem?
  intro i
  rw [List.getElem?_set]
  split
  · rename_i e; subst e
    have := mix_length L A T k
    split
    · rename_i hl; simp [List.getD, hl]
    · omega
  · rfl
theorem tb_one (c : UInt8) (k j : Nat) (hk : k < 4) (hj : j < 4) : tb (c.toNat * 2 ^ (8 * k)) j = if j = k then c else 0 := by
  have hc := c.toNat_lt
  apply UInt8.toNat_inj.1
  have e : (tb (c.toNat * 2 ^ (8 * k)) j).toNat = c.toNat * 2 ^ (8 * k) / 2 ^ (8 * j) % 256 := by simp [tb]
  rw [e]
  match k, j, hk, hj with
  | 0, 0, _, _ | 1, 1, _, _ | 2, 2, _, _ | 3, 3, _, _ => simp <;> omega
  | 0, 1, _, _ | 0, 2, _, _ | 0, 3, _, _ | 1, 2, _, _ | 1, 3, _, _ | 2, 3, _, _ | 1, 0, _, _ | 2, 0, _, _ | 3, 0, _, _ | 2, 1, _, _ | 3, 1, _, _ | 3, 2, _, _ => simp <;> omega
/-- One byte turned. -/
theorem mix_one (L : List UInt8) (A k : Nat) (c : UInt8) (hk : k < 4) (hA : A + 4 ≤ L.length) : mix L A (c.toNat * 2 ^ (8 * k)) 4 = L.set (A + k) (L.getD (A + k) 0 ^^^ c) := by
  have ht := tb_one c k
  have hz : ∀ j, j < 4 → j ≠ k → tb (c.toNat * 2 ^ (8 * k)) j = 0 := fun j hj hne => by rw [ht j hk hj, if_neg hne]
  have hs : tb (c.toNat * 2 ^ (8 * k)) k = c := by rw [ht k hk hk, if_pos rfl]
  have up : ∀ n, k < n → n ≤ 4 → mix L A (c.toNat * 2 ^ (8 * k)) n = L.set (A + k) (L.getD (A + k) 0 ^^^ c) := by
    intro n
    induction n with
    | zero => intro h; omega
    | succ n ih =>
      intro h h4
      by_cases he : n = k
      · subst he
        rw [mix, mix_zero L A _ n (by omega) (fun j hj => hz j (by omega) (by omega)), hs]
      · rw [mix_step L A _ n (by omega) (hz n (by omega) he)]
        exact ih (by omega) (by omega)
  exact up 4 hk (by omega)
theorem flip_bad {r : Rc} (h : putE r = 0) (p : Nat) (hp : p < (putV r).length) (c : UInt8) (hc : c ≠ 0) : getS ((putV r).set p ((putV r).getD p 0 ^^^ c)) = 2 := by
  have hl := putV_len h
  have hrl := recB_le r (putE_ok h).2
  refine getS_bad _ (len_ne (by simp; omega)) ?_
  have hc1 : 0 < c.toNat := by
    rcases Nat.eq_zero_or_pos c.toNat with h | h
    · exact absurd (UInt8.toNat_inj.1 h) hc
    · exact h
  have hc2 := c.toNat_lt
  have hT : ∀ k, k < 4 → 0 < c.toNat * 2 ^ (8 * k) ∧ c.toNat * 2 ^ (8 * k) < 4294967296 := by
    intro k hk
    match k, hk with
    | 0, _ | 1, _ | 2, _ | 3, _ => simp <;> omega
  obtain ⟨A, k, hk, hA, rfl⟩ : ∃ A k, k < 4 ∧ (A = 0 ∨ (4 ≤ A ∧ A ≤ (recB r).length)) ∧ p = A + k := by
    by_cases h4 : p < 4
    · exact ⟨0, p, h4, .inl rfl, by omega⟩
    · by_cases h5 : p ≤ (recB r).length
      · exact ⟨p, 0, by omega, .inr ⟨by omega, h5⟩, rfl⟩
      · exact ⟨(recB r).length, p - (recB r).length, by omega, .inr ⟨by omega, Nat.le_refl _⟩, by omega⟩
  rw [← mix_one _ A k c hk (by omega), putV_seal h]
  exact mix_bad _ _ A (hT k hk).1 (hT k hk).2 (by omega) hA
theorem four_bad {r : Rc} (h : putE r = 0) (T A : Nat) (h0 : 0 < T) (h1 : T < 4294967296) (hA : A = 0 ∨ (4 ≤ A ∧ A + 4 ≤ (putV r).length)) : getS (mix (putV r) A T 4) = 2 := by
  have hl := putV_len h
  have hrl := recB_le r (putE_ok h).2
  refine getS_bad _ (len_ne (by rw [mix_length]; omega)) ?_
  rw [putV_seal h]
  exact mix_bad _ T A h0 h1 (by omega) (by omega)

/-! SlotTorn -/
def tn0 : Dv := newD 1
def tn2 (a : Rc) (old : Bool) : Dv := if old then flushD (swD 0 a tn0) else tn0
def tn3 (a b : Rc) (old : Bool) : Dv := swD 0 b (tn2 a old)
theorem writeE_zero {k : Int} {s : List UInt8} {D : Dv} (h : turnE D = 0) (h1 : 0 ≤ k) (h2 : k < D.size) (h3 : s.length ≤ 512) : writeE k s D = 0 := by
  rw [writeE, h, if_neg (by decide), if_neg (by omega), if_neg (by omega)]
theorem swE_zero {k : Int} {r : Rc} {D : Dv} (h : turnE D = 0) (h1 : 0 ≤ k) (h2 : k < D.size) : swE k r D = putE r := by
  unfold swE
  split
  · rename_i h0; rw [writeE_zero h h1 h2 (putV_le r), h0]
  · rfl
/-- A device that has power without end. -/
structure Live (D : Dv) : Prop where
  fall : D.fall = -1
  down : D.down = false
theorem Live.turnE {D : Dv} (h : Live D) : turnE D = 0 := by unfold Go.Proofs.Ytmjgbkepngeckaa.turnE; rw [h.fall, h.down]; rfl
theorem Live.turnD {D : Dv} (h : Live D) : turnD D = D := by unfold Go.Proofs.Ytmjgbkepngeckaa.turnD; rw [h.fall, h.down]; simp
theorem Live.new (n : Int) : Live (newD n) := ⟨rfl, rfl⟩
theorem Live.swD {D : Dv} (h : Live D) {k : Int} {r : Rc} (h1 : 0 ≤ k) (h2 : k < D.size) (hr : putE r = 0) : swD k r D = addD k (putV r) D := by
  rw [Go.Proofs.Ytmjgbkepngeckaa.swD, if_pos hr, writeD, if_pos (writeE_zero h.turnE h1 h2 (putV_le r)), h.turnD]
theorem Live.add {D : Dv} (h : Live D) (k : Int) (s : List UInt8) : Live (addD k s D) := ⟨h.fall, h.down⟩
theorem Live.flushD {D : Dv} (h : Live D) : flushD D = { putsD D.since D with since := [] } := by
  rw [Go.Proofs.Ytmjgbkepngeckaa.flushD, h.turnE, if_neg (by decide), h.turnD]
theorem swE_put {k : Int} {r : Rc} {D : Dv} (h : swE k r D = 0) : putE r = 0 := by
  unfold swE at h
  split at h
  · assumption
  · exact h
theorem swD_since (k : Int) (r : Rc) (D : Dv) : (swD k r D).since.length ≤ D.since.length + 1 := by
  unfold swD writeD
  split
  · split
    · show ((turnD D).since ++ [_]).length ≤ _
      rw [(turnD_same D).2.1]; simp
    · rw [(turnD_same D).2.1]; omega
  · omega
theorem flushD_since (D : Dv) : (flushD D).since.length ≤ D.since.length := by
  unfold flushD
  split
  · rw [(turnD_same D).2.1]; omega
  · simp
theorem tn2_since (a : Rc) (old : Bool) : (tn2 a old).since.length ≤ 1 := by
  unfold tn2
  split
  · have := flushD_since (swD 0 a tn0)
    have := swD_since 0 a tn0
    have : tn0.since.length = 0 := rfl
    omega
  · show tn0.since.length ≤ 1
    decide
def TornOk (T : Dv) (f : Int) (old : Bool) (a b : Rc) : Prop := srE 0 (crashD [f] T) = 0 ∧
    (f = 1 → srS 0 (crashD [f] T) = 1 ∧ srR 0 (crashD [f] T) = b) ∧
    (f ≠ 1 → f ≠ 2 → old = true → srS 0 (crashD [f] T) = 1 ∧ srR 0 (crashD [f] T) = a) ∧
    (f ≠ 1 → f ≠ 2 → old = false → srS 0 (crashD [f] T) = 0) ∧
    (f = 2 → srS 0 (crashD [f] T) = 2 ∧ srR 0 (crashD [f] T) = Rc.zero)
theorem torn_law (a b : Rc) (f : Int) (old : Bool) (ha : old = true → putE a = 0) (hb : putE b = 0) : TornOk (tn3 a b old) f old a b := by
  unfold TornOk
  obtain ⟨D2, hD2⟩ : ∃ D, D = tn2 a old := ⟨_, rfl⟩
  have h2 : Live D2 ∧ D2.size = 1 ∧ D2.since = [] ∧ D2.safe 0 = (if old then putV a else []) ∧ D2.lost 0 = false := by
    rw [hD2]
    cases old
    · exact ⟨Live.new 1, rfl, rfl, rfl, rfl⟩
    · unfold tn2
      rw [if_pos rfl, show tn0 = newD 1 from rfl, (Live.new 1).swD (k := 0) (by decide) (by decide) (ha rfl), ((Live.new 1).add 0 (putV a)).flushD]
      exact ⟨⟨rfl, rfl⟩, rfl, rfl, rfl, rfl⟩
  obtain ⟨hl, hs, hsi, hsa, hlo⟩ := h2
  have h3 : tn3 a b old = addD 0 (putV b) D2 := by unfold tn3; rw [← hD2, hl.swD (by decide) (by omega) hb]
  have hc : crashD [f] (tn3 a b old) = fateD f (0, putV b) (bareD (addD 0 (putV b) D2)) := by
    rw [h3]; unfold crashD; rw [show (addD 0 (putV b) D2).since = [(0, putV b)] by simp [addD, hsi]]; rfl
  rw [hc]
  obtain ⟨B, hB⟩ : ∃ B, B = bareD (addD 0 (putV b) D2) := ⟨_, rfl⟩
  have b1 : B.size = 1 := by rw [hB]; show min (max D2.size 0) 4096 = 1; rw [hs]; rfl
  have b2 : B.since = [] := by rw [hB]; rfl
  have b3 : B.safe 0 = (if old then putV a else []) := by rw [hB]; exact hsa
  have b4 : B.lost 0 = false := by rw [hB]; show setF D2.lost 0 false 0 = _; exact setF_same _ _ _
  have b5 : B.down = false := by rw [hB]; rfl
  rw [← hB]
  obtain ⟨z1, z2, z3, z4, z5⟩ := fateD_size f (0, putV b) B
  obtain ⟨C, hC⟩ : ∃ C, C = fateD f (0, putV b) B := ⟨_, rfl⟩
  rw [← hC] at z1 z2 z3 z4 z5 ⊢
  have e0 : readE 0 C = 0 := by unfold readE; rw [z5, b5, z1, b1, z3, b4]; simp
  have hv : readV 0 C = C.safe 0 := by rw [readV, if_pos e0, contD, z2, b2]; rfl
  have g1 : srE 0 C = 0 := by rw [srE, e0]; rfl
  have g2 : srS 0 C = getS (C.safe 0) := by rw [srS, e0, hv]; rfl
  have g3 : srR 0 C = getR (C.safe 0) := by rw [srR, e0, hv]; rfl
  rw [g1, g2, g3]
  refine ⟨rfl, fun h => ?_, fun h h' ho => ?_, fun h h' ho => ?_, fun h => ?_⟩
  · have : C.safe 0 = putV b := by rw [hC, fateD, if_pos h]; show setF B.safe 0 (putV b) 0 = _; exact setF_same _ _ _
    rw [this]; exact get_put hb
  · have : C.safe 0 = putV a := by rw [hC, fateD, if_neg h, if_neg h', b3, if_pos ho]
    rw [this]; exact get_put (ha ho)
  · have : C.safe 0 = [] := by rw [hC, fateD, if_neg h, if_neg h', b3, ho]; rfl
    rw [this]; rfl
  · have : C.safe 0 = (putV b).take ((putV b).length / 2) := by rw [hC, fateD, if_neg (by omega), if_pos h]; show setF B.safe 0 ((putV b).take ((putV b).length / 2)) 0 = _; exact setF_same _ _ _
    rw [this]
    have hl := putV_len hb
    have := torn_bad hb ((putV b).length / 2) (by omega) (by omega)
    exact ⟨this, getR_zero (by omega)⟩
end Go.Proofs.Ytmjgbkepngeckaa
