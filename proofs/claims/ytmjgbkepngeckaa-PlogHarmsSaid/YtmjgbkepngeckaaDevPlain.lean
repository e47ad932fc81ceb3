/- Plain functions of layer 3: a device. No program in sight. -/
namespace Go.Proofs.Ytmjgbkepngeckaa

structure Dv where
  size : Int
  safe : Int → List UInt8
  since : List (Int × List UInt8)
  lost : Int → Bool
  hurt : Int → Bool
  fall : Int
  down : Bool

def setF {α : Type} (f : Int → α) (k : Int) (v : α) : Int → α := fun x => if x = k then v else f x
theorem setF_same {α : Type} (f : Int → α) (k : Int) (v : α) : setF f k v k = v := if_pos rfl
theorem setF_other {α : Type} (f : Int → α) (k x : Int) (v : α) (h : x ≠ k) : setF f k v x = f x := if_neg h
def newD (n : Int) : Dv := ⟨min (max n 0) 4096, fun _ => [], [], fun _ => false, fun _ => false, -1, false⟩
def fallD (n : Int) (D : Dv) : Dv := { D with fall := max n 0 }
/-- What is asked ahead of each call that turns something: 5 or 0. -/
def turnE (D : Dv) : Int := if D.down = true ∨ D.fall = 0 then 5 else 0
def turnD (D : Dv) : Dv := if D.down = true then D else if D.fall = 0 then { D with down := true } else if 0 < D.fall then { D with fall := D.fall - 1 } else D
def writeE (b : Int) (s : List UInt8) (D : Dv) : Int := if turnE D = 5 then 5 else if b < 0 ∨ D.size ≤ b then 7 else if 512 < s.length then 3 else 0
def addD (b : Int) (s : List UInt8) (D : Dv) : Dv := { D with since := D.since ++ [(b, s)], lost := setF D.lost b false }
def writeD (b : Int) (s : List UInt8) (D : Dv) : Dv := if writeE b s D = 0 then addD b s (turnD D) else turnD D
def putD (b : Int) (s : List UInt8) (D : Dv) : Dv := { D with safe := setF D.safe b s, hurt := setF D.hurt b false }
def putsD (l : List (Int × List UInt8)) (D : Dv) : Dv := l.foldl (fun D c => putD c.1 c.2 D) D
def flushD (D : Dv) : Dv := if turnE D = 5 then turnD D else { putsD D.since (turnD D) with since := [] }
/-- What was written last. -/
def lastW : List (Int × List UInt8) → Int → Option (List UInt8)
  | [], _ => none
  | c :: l, b => match lastW l b with
    | some s => some s
    | none => if c.1 = b then some c.2 else none
def contD (D : Dv) (b : Int) : List UInt8 := (lastW D.since b).getD (D.safe b)
def readE (b : Int) (D : Dv) : Int := if D.down = true then 5 else if b < 0 ∨ D.size ≤ b then 7 else if D.lost b = true then 6 else 0
def readV (b : Int) (D : Dv) : List UInt8 := if readE b D = 0 then contD D b else []
/-- A write's fate: 1 kept, 2 torn. -/
def fateD (f : Int) (c : Int × List UInt8) (D : Dv) : Dv :=
  if f = 1 then putD c.1 c.2 D else if f = 2 then { putD c.1 (c.2.take (c.2.length / 2)) D with hurt := setF D.hurt c.1 true } else D
def fatesD (fs : List Int) : Nat → List (Int × List UInt8) → Dv → Dv
  | _, [], D => D
  | i, c :: l, D => fatesD fs (i + 1) l (fateD (fs.getD i 0) c D)
def bareD (D : Dv) : Dv := { newD D.size with safe := D.safe, lost := D.lost, hurt := D.hurt }
def crashD (fs : List Int) (D : Dv) : Dv := fatesD fs 0 D.since (bareD D)
def loseD (b : Int) (D : Dv) : Dv := if 0 ≤ b ∧ b < D.size then { D with lost := setF D.lost b true } else D
/-- The number that an int is as a uint. -/
def uint (n : Int) : Nat := (n % 18446744073709551616).toNat
def flipL (l : List UInt8) (at_ : Int) (c : UInt8) : List UInt8 := l.set (uint at_ % l.length) (l.getD (uint at_ % l.length) 0 ^^^ c)
def flipD (b at_ : Int) (c : UInt8) (D : Dv) : Dv :=
  if 0 ≤ b ∧ b < D.size ∧ D.safe b ≠ [] ∧ c ≠ 0 ∧ D.hurt b = false then { D with hurt := setF D.hurt b true, safe := setF D.safe b (flipL (D.safe b) at_ c) } else D

theorem putsD_append (a b : List (Int × List UInt8)) (D : Dv) : putsD (a ++ b) D = putsD b (putsD a D) := by simp [putsD]
theorem putsD_size (l : List (Int × List UInt8)) : ∀ D : Dv, (putsD l D).size = D.size ∧ (putsD l D).since = D.since ∧ (putsD l D).lost = D.lost ∧ (putsD l D).fall = D.fall ∧ (putsD l D).down = D.down := by
  induction l with
  | nil => intro D; exact ⟨rfl, rfl, rfl, rfl, rfl⟩
  | cons c l ih => intro D; exact ih (putD c.1 c.2 D)
theorem fateD_size (f : Int) (c : Int × List UInt8) (D : Dv) : (fateD f c D).size = D.size ∧ (fateD f c D).since = D.since ∧ (fateD f c D).lost = D.lost ∧ (fateD f c D).fall = D.fall ∧ (fateD f c D).down = D.down := by
  unfold fateD
  split
  · exact ⟨rfl, rfl, rfl, rfl, rfl⟩
  · split <;> exact ⟨rfl, rfl, rfl, rfl, rfl⟩
theorem fatesD_size (fs : List Int) : ∀ (l : List (Int × List UInt8)) (i : Nat) (D : Dv), (fatesD fs i l D).size = D.size ∧ (fatesD fs i l D).since = D.since ∧ (fatesD fs i l D).lost = D.lost ∧ (fatesD fs i l D).fall = D.fall ∧ (fatesD fs i l D).down = D.down
  | [], _, D => ⟨rfl, rfl, rfl, rfl, rfl⟩
  | c :: l, i, D => by
    obtain ⟨h1, h2, h3, h4, h5⟩ := fatesD_size fs l (i + 1) (fateD (fs.getD i 0) c D)
    obtain ⟨g1, g2, g3, g4, g5⟩ := fateD_size (fs.getD i 0) c D
    exact ⟨h1.trans g1, h2.trans g2, h3.trans g3, h4.trans g4, h5.trans g5⟩
theorem fatesD_snoc (fs : List Int) : ∀ (l : List (Int × List UInt8)) (c : Int × List UInt8) (i : Nat) (D : Dv), fatesD fs i (l ++ [c]) D = fateD (fs.getD (i + l.length) 0) c (fatesD fs i l D)
  | [], c, i, D => rfl
  | x :: l, c, i, D => by
    show fatesD fs (i + 1) (l ++ [c]) _ = _
    rw [fatesD_snoc fs l c (i + 1)]
    show fateD (fs.getD (i + 1 + l.length) 0) c _ = fateD (fs.getD (i + (l.length + 1)) 0) c _
    rw [Nat.add_right_comm, Nat.add_assoc]; rfl
theorem lastW_snoc (l : List (Int × List UInt8)) (c : Int × List UInt8) (b : Int) : lastW (l ++ [c]) b = if c.1 = b then some c.2 else lastW l b := by
  induction l with
  | nil => simp [lastW]
  | cons x l ih =>
    rw [List.cons_append, lastW, ih]
    by_cases h : c.1 = b
    · simp [h]
    · simp only [h, if_false]; rfl
theorem crashD_size (fs : List Int) (D : Dv) : (crashD fs D).size = min (max D.size 0) 4096 ∧ (crashD fs D).since = [] ∧ (crashD fs D).lost = D.lost ∧ (crashD fs D).fall = -1 ∧ (crashD fs D).down = false := fatesD_size fs D.since 0 (bareD D)

/-- What holds of every device. -/
structure DvOk (D : Dv) : Prop where
  size0 : 0 ≤ D.size
  size : D.size ≤ 4096
  since : ∀ c ∈ D.since, c.2.length ≤ 512
  safe : ∀ k, (D.safe k).length ≤ 512
  fall0 : -1 ≤ D.fall
  fall : D.fall ≤ 9223372036854775807
theorem DvOk.new (n : Int) : DvOk (newD n) := ⟨by show 0 ≤ min (max n 0) 4096; omega, by show min (max n 0) 4096 ≤ 4096; omega, by simp [newD], by simp [newD], by simp [newD], by simp [newD]⟩
theorem DvOk.turn {D : Dv} (h : DvOk D) : DvOk (turnD D) := by
  unfold turnD
  split
  · exact h
  · split
    · exact ⟨h.size0, h.size, h.since, h.safe, h.fall0, h.fall⟩
    · split
      · exact ⟨h.size0, h.size, h.since, h.safe, by show -1 ≤ D.fall - 1; omega, by show D.fall - 1 ≤ _; have := h.fall; omega⟩
      · exact h
theorem turnD_same (D : Dv) : (turnD D).size = D.size ∧ (turnD D).since = D.since ∧ (turnD D).lost = D.lost ∧ (turnD D).safe = D.safe ∧ (turnD D).hurt = D.hurt := by
  unfold turnD
  repeat' split
  all_goals exact ⟨rfl, rfl, rfl, rfl, rfl⟩
theorem DvOk.fallD {D : Dv} (h : DvOk D) (n : Int) (hn : n ≤ 9223372036854775807) : DvOk (fallD n D) :=
  ⟨h.size0, h.size, h.since, h.safe, by show -1 ≤ max n 0; omega, by show max n 0 ≤ _; omega⟩
theorem DvOk.add {D : Dv} (h : DvOk D) (b : Int) (s : List UInt8) (hs : s.length ≤ 512) : DvOk (addD b s D) :=
  ⟨h.size0, h.size, fun c hc => by
    simp only [addD, List.mem_append, List.mem_singleton] at hc
    rcases hc with hc | rfl
    · exact h.since c hc
    · exact hs, h.safe, h.fall0, h.fall⟩
theorem DvOk.write {D : Dv} (h : DvOk D) (b : Int) (s : List UInt8) : DvOk (writeD b s D) := by
  unfold writeD
  split
  · rename_i hw
    refine h.turn.add b s ?_
    unfold writeE at hw
    split at hw
    · cases hw
    · split at hw
      · cases hw
      · split at hw
        · cases hw
        · omega
  · exact h.turn
theorem DvOk.put {D : Dv} (h : DvOk D) (b : Int) (s : List UInt8) (hs : s.length ≤ 512) : DvOk (putD b s D) :=
  ⟨h.size0, h.size, h.since, fun k => by show (setF D.safe b s k).length ≤ 512; unfold setF; split; exact hs; exact h.safe k, h.fall0, h.fall⟩
theorem DvOk.puts : ∀ (l : List (Int × List UInt8)) {D : Dv}, DvOk D → (∀ c ∈ l, c.2.length ≤ 512) → DvOk (putsD l D)
  | [], _, h, _ => h
  | c :: l, _, h, hl => DvOk.puts l (h.put c.1 c.2 (hl c (by simp))) (fun x hx => hl x (by simp [hx]))
theorem DvOk.flush {D : Dv} (h : DvOk D) : DvOk (flushD D) := by
  unfold flushD
  split
  · exact h.turn
  · have hp := DvOk.puts D.since h.turn h.since
    exact ⟨hp.size0, hp.size, by simp, hp.safe, hp.fall0, hp.fall⟩
theorem DvOk.fate {D : Dv} (h : DvOk D) (f : Int) (c : Int × List UInt8) (hc : c.2.length ≤ 512) : DvOk (fateD f c D) := by
  unfold fateD
  split
  · exact h.put _ _ hc
  · split
    · have hp := h.put c.1 (c.2.take (c.2.length / 2)) (by rw [List.length_take]; omega)
      exact ⟨hp.size0, hp.size, hp.since, hp.safe, hp.fall0, hp.fall⟩
    · exact h
theorem DvOk.fates (fs : List Int) : ∀ (l : List (Int × List UInt8)) (i : Nat) {D : Dv}, DvOk D → (∀ c ∈ l, c.2.length ≤ 512) → DvOk (fatesD fs i l D)
  | [], _, _, h, _ => h
  | c :: l, i, _, h, hl => DvOk.fates fs l (i + 1) (h.fate _ c (hl c (by simp))) (fun x hx => hl x (by simp [hx]))
theorem DvOk.bare {D : Dv} (h : DvOk D) : DvOk (bareD D) :=
  ⟨by show 0 ≤ min (max D.size 0) 4096; omega, by show min (max D.size 0) 4096 ≤ 4096; omega, by simp [bareD, newD], h.safe, by show (-1 : Int) ≤ -1; omega, by show (-1 : Int) ≤ _; omega⟩
theorem DvOk.crash {D : Dv} (h : DvOk D) (fs : List Int) : DvOk (crashD fs D) := DvOk.fates fs D.since 0 h.bare h.since
theorem DvOk.lose {D : Dv} (h : DvOk D) (b : Int) : DvOk (loseD b D) := by
  unfold loseD
  split
  · exact ⟨h.size0, h.size, h.since, h.safe, h.fall0, h.fall⟩
  · exact h
theorem flipL_length (l : List UInt8) (at_ : Int) (c : UInt8) : (flipL l at_ c).length = l.length := by simp [flipL]
theorem DvOk.flip {D : Dv} (h : DvOk D) (b at_ : Int) (c : UInt8) : DvOk (flipD b at_ c D) := by
  unfold flipD
  split
  · exact ⟨h.size0, h.size, h.since, fun k => by
      show (setF D.safe b (flipL (D.safe b) at_ c) k).length ≤ 512
      unfold setF; split
      · rw [flipL_length]; exact h.safe b
      · exact h.safe k, h.fall0, h.fall⟩
  · exact h
theorem lastW_le : ∀ (l : List (Int × List UInt8)) (b : Int) (s : List UInt8), (∀ c ∈ l, c.2.length ≤ 512) → lastW l b = some s → s.length ≤ 512
  | [], _, _, _, h => by cases h
  | c :: l, b, s, hl, h => by
    rw [lastW] at h
    cases hw : lastW l b with
    | some t =>
      rw [hw] at h
      cases h
      exact lastW_le l b _ (fun x hx => hl x (by simp [hx])) hw
    | none =>
      rw [hw] at h
      simp only at h
      split at h
      · cases h; exact hl c (by simp)
      · cases h
theorem DvOk.cont {D : Dv} (h : DvOk D) (b : Int) : (contD D b).length ≤ 512 := by
  unfold contD
  cases hw : lastW D.since b with
  | none => exact h.safe b
  | some s => exact lastW_le _ _ _ h.since hw
theorem DvOk.readV {D : Dv} (h : DvOk D) (b : Int) : (readV b D).length ≤ 512 := by
  unfold Go.Proofs.Ytmjgbkepngeckaa.readV
  split
  · exact h.cont b
  · simp
end Go.Proofs.Ytmjgbkepngeckaa
