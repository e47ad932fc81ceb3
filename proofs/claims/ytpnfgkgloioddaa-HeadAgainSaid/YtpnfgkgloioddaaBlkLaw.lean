/- Plain law of SlotBlocks. No program in sight. -/
import Derived.Test.YtpnfgkgloioddaaTornLaw
namespace Go.Proofs.Ytpnfgkgloioddaa
set_option linter.unusedVariables false

def BlkTail (T : Dv) (B : Int) (r : Rc) : Prop :=
  (srE B T = 0 ∧ srS B T = 2 ∧ srR B T = Rc.zero ∧ swE B r T = 0) ∧ (srE B (swD B r T) = 0 ∧ srS B (swD B r T) = 1 ∧ srR B (swD B r T) = r ∧ srE 8 (swD B r T) = 7) ∧
  (turnE (fallD 0 (swD B r T)) = 5 ∧ srE B (flushD (fallD 0 (swD B r T))) = 5 ∧ swE B r (flushD (fallD 0 (swD B r T))) = 5) ∧ T.since.length ≤ 1 ∧ (flushD (fallD 0 (swD B r T))).since.length ≤ 10
theorem readE_live {D : Dv} (h : Live D) {k : Int} (h1 : 0 ≤ k) (h2 : k < D.size) : readE k D = if D.lost k = true then 6 else 0 := by
  unfold readE; rw [h.down, if_neg (by decide), if_neg (by omega)]
theorem live_good {D : Dv} {r : Rc} {k : Int} (h : Live D) (h1 : 0 ≤ k) (h2 : k < D.size) (hs : D.since = []) (hr : putE r = 0) :
    srE k (addD k (putV r) D) = 0 ∧ srS k (addD k (putV r) D) = 1 ∧ srR k (addD k (putV r) D) = r := by
  have hlo : (addD k (putV r) D).lost k = false := setF_same _ _ _
  have hsz : (addD k (putV r) D).size = D.size := rfl
  have e : readE k (addD k (putV r) D) = 0 := by
    rw [readE_live (h.add k _) h1 (by rw [hsz]; exact h2), hlo]; rfl
  have hv : readV k (addD k (putV r) D) = putV r := by
    rw [readV, if_pos e, contD]
    have : (addD k (putV r) D).since = [] ++ [(k, putV r)] := by show D.since ++ _ = _; rw [hs]
    rw [this, lastW_snoc, if_pos rfl]; rfl
  refine ⟨by rw [srE, e]; rfl, by rw [srS, e, hv]; exact (get_put hr).1, by rw [srR, e, hv]; exact (get_put hr).2⟩
theorem blk_tail {T : Dv} {B : Int} {r : Rc} (h : Live T) (hsz : T.size = 8) (hs : T.since = []) (h0 : 0 ≤ B) (h8 : B < 8) (hr : putE r = 0) (hb : T.lost B = true ∨ (T.lost B = false ∧ getS (T.safe B) = 2)) : BlkTail T B r := by
  have hre := readE_live h h0 (by omega : B < T.size)
  have hw : swD B r T = addD B (putV r) T := h.swD h0 (by omega) hr
  obtain ⟨g1, g2, g3⟩ := live_good h h0 (by omega) hs hr
  refine ⟨?_, ⟨by rw [hw]; exact g1, by rw [hw]; exact g2, by rw [hw]; exact g3, ?_⟩, ?_, by rw [hs]; simp, ?_⟩
  · have h4 : swE B r T = 0 := by rw [swE_zero h.turnE h0 (by omega)]; exact hr
    rcases hb with hb | ⟨hb, hg⟩
    · rw [hb, if_pos rfl] at hre
      exact ⟨by rw [srE, hre]; rfl, by rw [srS, hre]; rfl, by rw [srR, hre]; rfl, h4⟩
    · rw [hb, if_neg (by decide)] at hre
      have hv : readV B T = T.safe B := by rw [readV, if_pos hre, contD, hs]; rfl
      exact ⟨by rw [srE, hre]; rfl, by rw [srS, hre, hv]; exact hg, by rw [srR, hre, hv]; exact getR_zero (by omega), h4⟩
  · have : readE 8 (swD B r T) = 7 := by
      rw [hw]; unfold readE
      rw [(h.add B _).down, if_neg (by decide), if_pos (.inr (by show T.size ≤ 8; omega))]
    rw [srE, this]; rfl
  · obtain ⟨D, hD⟩ : ∃ D, D = fallD 0 (swD B r T) := ⟨_, rfl⟩
    rw [← hD]
    have f0 : D.fall = 0 := by rw [hD]; rfl
    have d0 : D.down = false := by rw [hD, hw]; exact h.down
    have t5 : turnE D = 5 := by rw [turnE, if_pos (.inr f0)]
    have hF : flushD D = { D with down := true } := by rw [flushD, if_pos t5, turnD, d0, if_neg (by decide), if_pos f0]
    refine ⟨t5, ?_, ?_⟩
    · rw [hF, srE, readE, if_pos rfl]; rfl
    · rw [hF, swE, if_pos hr, writeE, if_pos (by rw [turnE, if_pos (.inl rfl)])]
  · have := flushD_since (fallD 0 (swD B r T))
    have : (fallD 0 (swD B r T)).since.length = (swD B r T).since.length := rfl
    have := swD_since B r T
    rw [hs] at this
    simp at this
    omega
def bk1 (r : Rc) (B : Int) : Dv := swD B r (newD 8)
def bk2 (r : Rc) (B : Int) : Dv := flushD (bk1 r B)
/-- All that the call sees. -/
def BlkOk (r : Rc) (B at_ : Int) : Prop :=
  (srE B (newD 8) = 0 ∧ srS B (newD 8) = 0 ∧ srR B (newD 8) = Rc.zero) ∧ (swE B r (newD 8) = 0 ∨ swE B r (newD 8) = 1) ∧
  (swE B r (newD 8) = 0 → (srE B (bk1 r B) = 0 ∧ srS B (bk1 r B) = 1 ∧ srR B (bk1 r B) = r ∧ turnE (bk1 r B) = 0) ∧ BlkTail (loseD B (bk2 r B)) B r ∧ (∀ c : UInt8, c ≠ 0 → BlkTail (flipD B at_ c (bk2 r B)) B r))
theorem blk_ok (r : Rc) (B at_ : Int) (h0 : 0 ≤ B) (h8 : B < 8) (hd : r.data.length ≤ 488) : BlkOk r B at_ := by
  have hl := Live.new 8
  have hE : swE B r (newD 8) = putE r := swE_zero hl.turnE h0 h8
  refine ⟨?_, ?_, fun hz => ?_⟩
  · have : readE B (newD 8) = 0 := by rw [readE_live hl h0 h8]; rfl
    have hv : readV B (newD 8) = [] := by rw [readV, if_pos this]; rfl
    exact ⟨by rw [srE, this]; rfl, by rw [srS, this, hv]; rfl, by rw [srR, this, hv]; rfl⟩
  · rw [hE]
    unfold putE
    split
    · exact .inr rfl
    · rw [if_neg (by omega)]; exact .inl rfl
  · rw [hE] at hz
    have h1 : bk1 r B = addD B (putV r) (newD 8) := hl.swD h0 h8 hz
    have l1 : Live (bk1 r B) := by rw [h1]; exact hl.add _ _
    have h2 : bk2 r B = { putsD (bk1 r B).since (bk1 r B) with since := [] } := l1.flushD
    obtain ⟨g1, g2, g3⟩ := live_good hl h0 h8 rfl hz
    have l2 : Live (bk2 r B) := by rw [h2, h1]; exact ⟨rfl, rfl⟩
    have s2 : (bk2 r B).size = 8 := by rw [h2, h1]; rfl
    have n2 : (bk2 r B).since = [] := by rw [h2]
    have v2 : (bk2 r B).safe B = putV r := by rw [h2, h1]; show setF _ B (putV r) B = _; exact setF_same _ _ _
    have o2 : (bk2 r B).lost B = false := by rw [h2, h1]; show setF _ B false B = _; exact setF_same _ _ _
    have u2 : (bk2 r B).hurt B = false := by rw [h2, h1]; show setF _ B false B = _; exact setF_same _ _ _
    have hlen := putV_len hz
    refine ⟨⟨by rw [h1]; exact g1, by rw [h1]; exact g2, by rw [h1]; exact g3, l1.turnE⟩, ?_, fun c hc => ?_⟩
    · have e : loseD B (bk2 r B) = { bk2 r B with lost := setF (bk2 r B).lost B true } := by rw [loseD, if_pos ⟨h0, by omega⟩]
      rw [e]
      exact blk_tail ⟨l2.fall, l2.down⟩ s2 n2 h0 h8 hz (.inl (setF_same _ _ _))
    · have e : flipD B at_ c (bk2 r B) = { bk2 r B with hurt := setF (bk2 r B).hurt B true, safe := setF (bk2 r B).safe B (flipL ((bk2 r B).safe B) at_ c) } := by
        rw [flipD, if_pos ⟨h0, by omega, by rw [v2]; exact putV_ne hz, hc, u2⟩]
      rw [e]
      refine blk_tail ⟨l2.fall, l2.down⟩ s2 n2 h0 h8 hz (.inr ⟨o2, ?_⟩)
      show getS (setF _ B _ B) = 2
      rw [setF_same, v2]
      exact flip_bad hz _ (Nat.mod_lt _ (by omega)) c hc
end Go.Proofs.Ytpnfgkgloioddaa
