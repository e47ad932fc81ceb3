/- Plain functions of layer 5: a head. No program in sight. -/
import Derived.Test.YtpnfgkgloioddaaTornLaw
namespace Go.Proofs.Ytpnfgkgloioddaa
set_option linter.unusedVariables false

structure Hd where
  term : Int
  vote : Int
  first : Int
  base : Int
  deriving DecidableEq
def Hd.zero : Hd := ⟨0, 0, 0, 0⟩
def Hd.one : Hd := ⟨0, 0, 1, 0⟩
/-- What a copy's text reads as. -/
def readHd (t : List UInt8) : Int × Int × Int × (List UInt8 × Bool) :=
  let a := numR 7 (t, false)
  let b := numR 281474976710655 a.2
  let c := numR 281474976710655 b.2
  (a.1, b.1, c.1, c.2)
structure Cp where
  h : Hd
  turn : Int
  st : Int
  e : Int
/-- What a rec is as a copy. -/
def cpRec (r : Rc) : Cp := if doneR (readHd r.data).2.2.2 = 0 ∧ r.kind = 1 then ⟨⟨r.term, (readHd r.data).1, (readHd r.data).2.1, (readHd r.data).2.2.1⟩, r.idx, 1, 0⟩ else ⟨Hd.zero, 0, 2, 0⟩
/-- What copyOf answers. -/
def cpOf (k : Int) (D : Dv) : Cp := if srE k D = 0 ∧ srS k D = 1 then cpRec (srR k D) else ⟨Hd.zero, 0, srS k D, srE k D⟩
/-- The rec of a head's copy. -/
def hdText (h : Hd) : List UInt8 := encNums [h.vote, h.first, h.base]
def hdRec (n : Int) (h : Hd) : Rc := ⟨1, n, h.term, hdText h⟩
def Hd.right (h : Hd) : Prop := 0 ≤ h.term ∧ 0 ≤ h.vote ∧ h.vote ≤ 7 ∧ 1 ≤ h.first ∧ 0 ≤ h.base ∧ h.term ≤ 281474976710655 ∧ h.first ≤ 281474976710655 ∧ h.base ≤ 281474976710655
instance (h : Hd) : Decidable h.right := inferInstanceAs (Decidable (_ ∧ _))
theorem hdText_length (h : Hd) : (hdText h).length = 18 := by simp [hdText, encNums_length]
theorem hdRec_put {h : Hd} {n : Int} (hr : h.right) (h0 : 0 ≤ n) (h1 : n ≤ 281474976710655) : putE (hdRec n h) = 0 := by
  obtain ⟨a, b, c, d, e, f, g, i⟩ := hr
  refine putE_zero ⟨by simp [hdRec], h0, a, by simp [hdRec], h1, f⟩ ?_
  show (hdText h).length ≤ 488
  rw [hdText_length]; omega
theorem readHd_text {h : Hd} (hr : h.right) : readHd (hdText h) = (h.vote, h.first, h.base, ([], false)) := by
  obtain ⟨a, b, c, d, e, f, g, i⟩ := hr
  have e1 : hdText h = encNum h.vote ++ (encNum h.first ++ (encNum h.base ++ [])) := by simp [hdText, encNums]
  unfold readHd
  rw [e1]
  simp only [numR_enc _ _ _ b c (by omega), numR_enc _ _ _ (show 0 ≤ h.first by omega) g (by omega), numR_enc _ _ _ e i (by omega)]
theorem cpRec_hd {h : Hd} {n : Int} (hr : h.right) : cpRec (hdRec n h) = ⟨h, n, 1, 0⟩ := by
  unfold cpRec
  have : readHd (hdRec n h).data = (h.vote, h.first, h.base, ([], false)) := readHd_text hr
  rw [this]
  rfl
end Go.Proofs.Ytpnfgkgloioddaa
