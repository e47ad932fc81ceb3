/- The model of law 03 in memory: the predicate, and the contracts of in, New, Read. -/
import Derived.Test.YtpnfgkgloioddaaActs
import Derived.Test.YtpnfgkgloioddaaHeld
namespace Go.Proofs.Ytpnfgkgloioddaa
open Go.RowKit
set_option linter.unusedVariables false
set_option linter.unusedSimpArgs false

def row (n : Nat) (g : Int → Value) : List Value := (List.range n).map fun i : Nat => g i
theorem row_length (n : Nat) (g : Int → Value) : (row n g).length = n := by simp [row]
theorem row_get (n : Nat) (g : Int → Value) (i : Nat) (h : i < n) : (row n g)[i]? = some (g i) := by simp [row, h]
theorem row_set (n : Nat) (g : Int → Value) (i : Nat) (v : Value) : (row n g).set i v = row n (fun x => if x = (i : Int) then v else g x) := by
  apply List.ext_getElem?
  intro j
  rw [List.getElem?_set]
  simp only [row, List.length_map, List.length_range, List.getElem?_map, List.getElem?_range]
  by_cases h : i = j
  · subst h
    by_cases h2 : i < n
    · simp [h2]
    · simp [h2]
  · rw [if_neg h]
    by_cases h2 : j < n
    · have : ¬ ((j : Int) = (i : Int)) := by omega
      simp [h2, this]
    · simp [h2]
theorem row_setS (n : Nat) (f : Int → List UInt8) (i : Nat) (v : List UInt8) : (row n fun k => str (f k)).set i (str v) = row n fun k => str (setF f i v k) := by
  rw [row_set]
  congr 1
  funext x
  unfold setF
  split <;> rfl
theorem row_setB (n : Nat) (f : Int → Bool) (i : Nat) (v : Bool) : (row n fun k => .bool (f k)).set i (.bool v) = row n fun k => .bool (setF f i v k) := by
  rw [row_set]
  congr 1
  funext x
  unfold setF
  split <;> rfl

/-- The model at block m. -/
structure MdIn (w : World) (m gs gg gh : Nat) (vn : Value) (n : Nat) (D : Dv) : Prop where
  blk : Blk w m 111 [.int .i64 (n : Int), .slice (some ⟨gs, 0, none⟩) n n, vn, .slice (some ⟨gg, 0, none⟩) n n, .slice (some ⟨gh, 0, none⟩) n n, .int .i64 D.fall, .bool D.down]
  size : D.size = n
  safe : Blk w gs 9 (row n fun k => str (D.safe k))
  gone : Blk w gg 4 (row n fun k => .bool (D.lost k))
  hurt : Blk w gh 4 (row n fun k => .bool (D.hurt k))
  since : Own w 114 2 vn D.since.length (chgs D.since)
  n1 : gs ≠ m
  n2 : gg ≠ m
  n3 : gh ≠ m
  n12 : gs ≠ gg
  n13 : gs ≠ gh
  n23 : gg ≠ gh
  sep : ∀ k ∈ vblocks vn, k ≠ m ∧ k ≠ gs ∧ k ≠ gg ∧ k ≠ gh
theorem MdIn.keep {w w' : World} {m gs gg gh : Nat} {vn : Value} {n : Nat} {D : Dv} {G : List Nat} (h : MdIn w m gs gg gh vn n D) (hx : Ext G w w') (hm : m ∉ G) (h1 : gs ∉ G) (h2 : gg ∉ G) (h3 : gh ∉ G) (hv : ∀ k ∈ vblocks vn, k ∉ G) : MdIn w' m gs gg gh vn n D :=
  ⟨h.blk.keep hx hm, h.size, h.safe.keep hx h1, h.gone.keep hx h2, h.hurt.keep hx h3, h.since.keep hx hv, h.n1, h.n2, h.n3, h.n12, h.n13, h.n23, h.sep⟩
theorem MdIn.keep0 {w w' : World} {m gs gg gh : Nat} {vn : Value} {n : Nat} {D : Dv} (h : MdIn w m gs gg gh vn n D) (hx : Ext [] w w') : MdIn w' m gs gg gh vn n D := h.keep hx (by simp) (by simp) (by simp) (by simp) (by simp)
theorem MdIn.lts {w : World} {m gs gg gh : Nat} {vn : Value} {n : Nat} {D : Dv} (h : MdIn w m gs gg gh vn n D) : m < w.heap.size ∧ gs < w.heap.size ∧ gg < w.heap.size ∧ gh < w.heap.size ∧ ∀ k ∈ vblocks vn, k < w.heap.size := ⟨h.blk.lt, h.safe.lt, h.gone.lt, h.hurt.lt, h.since.lt⟩
/-- The cells of the model's block. -/
theorem MdIn.c {w : World} {m gs gg gh : Nat} {vn : Value} {n : Nat} {D : Dv} (h : MdIn w m gs gg gh vn n D) : w.cell? ⟨m, 0, none⟩ = some (.int .i64 (n : Int)) ∧ w.cell? ⟨m, 1, none⟩ = some (.slice (some ⟨gs, 0, none⟩) n n) ∧ w.cell? ⟨m, 2, none⟩ = some vn ∧
    w.cell? ⟨m, 3, none⟩ = some (.slice (some ⟨gg, 0, none⟩) n n) ∧ w.cell? ⟨m, 4, none⟩ = some (.slice (some ⟨gh, 0, none⟩) n n) ∧ w.cell? ⟨m, 5, none⟩ = some (.int .i64 D.fall) ∧ w.cell? ⟨m, 6, none⟩ = some (.bool D.down) :=
  ⟨h.blk.c 0, h.blk.c 1, h.blk.c 2, h.blk.c 3, h.blk.c 4, h.blk.c 5, h.blk.c 6⟩
def mdF (m gs gg gh : Nat) (vn : Value) : List Nat := m :: gs :: gg :: gh :: vblocks vn
/-- What a method leaves: its own blocks turned, others new. -/
def MdTo (w w' : World) (m gs gg gh : Nat) (vn : Value) (n : Nat) (D : Dv) : Prop :=
  Ext (mdF m gs gg gh vn) w w' ∧ ∃ vn', MdIn w' m gs gg gh vn' n D ∧ ∀ k ∈ vblocks vn', k ∈ vblocks vn ∨ w.heap.size ≤ k

theorem min_any (m gs gg gh : Nat) (vn : Value) (n : Nat) (D : Dv) (k : Int) (w : World) (h : MdIn w m gs gg gh vn n D) :
    Calls Try.prog 60 #[.pointer (some ⟨m, 0, none⟩), .int .i64 k] w fun e w' => e = .returned (.bool (decide (0 ≤ k ∧ k < (n : Int)))) ∧ w = w' := by
  obtain ⟨c0, -⟩ := h.c
  by_cases h0 : 0 ≤ k
  · by_cases h1 : k < (n : Int)
    · have e : decide (0 ≤ k ∧ k < (n : Int)) = true := by simp [h0, h1]
      rw [e]
      go_enter Try.func60, Try.ntmps60
      go_wp2
      go_ret
      exact ⟨by first | rfl | simp [h1], rfl⟩
    · have e : decide (0 ≤ k ∧ k < (n : Int)) = false := by simp [h1]
      rw [e]
      go_enter Try.func60, Try.ntmps60
      go_wp2
      go_ret
      exact ⟨by first | rfl | (show Ending.returned (.bool (decide (k < (n : Int)))) = _; simp; omega), rfl⟩
  · have e : decide (0 ≤ k ∧ k < (n : Int)) = false := by simp [h0]
    rw [e]
    go_enter Try.func60, Try.ntmps60
    go_wp2
    go_ret
    exact ⟨rfl, rfl⟩

/-- Read. -/
theorem readV_fold (D : Dv) (b : Int) (j : Nat) (hj : j < D.since.length) : (lastW (D.since.take (j + 1)) b).getD (D.safe b) = if (D.since[j]).1 = b then (D.since[j]).2 else (lastW (D.since.take j) b).getD (D.safe b) := by
  rw [List.take_succ_eq_append_getElem hj, lastW_snoc]
  split <;> rfl
set_option maxHeartbeats 3200000 in
theorem mread_any (m gs gg gh : Nat) (vn : Value) (n : Nat) (D : Dv) (k : Int) (w : World) (h : MdIn w m gs gg gh vn n D) (hlen : D.since.length ≤ 1000000) :
    Calls Try.prog 61 #[.pointer (some ⟨m, 0, none⟩), .int .i64 k] w fun e w' => e = .returned (.tuple #[str (readV k D), .int .i64 (readE k D)]) ∧ Ext [] w w' := by
  obtain ⟨c0, c1, c2, c3, -, -, c6⟩ := h.c
  by_cases hd : D.down = true
  · have hE : readE k D = 5 := by rw [readE, if_pos hd]
    have hV : readV k D = [] := by rw [readV, hE, if_neg (by decide)]
    rw [hE, hV]
    rw [hd] at c6
    clear hE hV hd h
    go_enter Try.func61, Try.ntmps61
    go_wp2
    go_ret2
    exact ⟨rfl, Ext.refl _ _⟩
  · have hd' : D.down = false := by simpa using hd
    rw [hd'] at c6
    have cI := fun W hW => min_any m gs gg gh vn n D k W hW
    by_cases hr : 0 ≤ k ∧ k < (n : Int)
    · have e1 : decide (0 ≤ k ∧ k < (n : Int)) = true := by simpa using hr
      rw [e1] at cI
      obtain ⟨i, rfl⟩ : ∃ i : Nat, k = (i : Int) := ⟨k.toNat, by omega⟩
      have hi : i < n := by omega
      have hsz := h.size
      have g0 : w.cell? ⟨gg, i, none⟩ = some (.bool (D.lost i)) := by rw [h.gone.c i, row_get _ _ _ hi]
      have s0 : w.cell? ⟨gs, i, none⟩ = some (str (D.safe i)) := by rw [h.safe.c i, row_get _ _ _ hi]
      by_cases hl : D.lost i = true
      · have hE : readE i D = 6 := by rw [readE, if_neg hd, if_neg (by omega), if_pos hl]
        have hV : readV i D = [] := by rw [readV, hE, if_neg (by decide)]
        rw [hE, hV]
        rw [hl] at g0
        clear hE hV hd hd' hl hr e1
        go_enter Try.func61, Try.ntmps61
        go_wp2_with fail
        refine (cI _ h).mono ?_
        rintro e w1 ⟨rfl, rfl⟩
        go_wp2
        go_ret2
        exact ⟨rfl, Ext.refl _ _⟩
      · have hl' : D.lost i = false := by simpa using hl
        have hE : readE i D = 0 := by rw [readE, if_neg hd, if_neg (by omega), if_neg hl]
        have hV : Hid (readV i D = (lastW D.since i).getD (D.safe i)) := by show _ = _; rw [readV, hE, if_pos rfl]; rfl
        have HF : Hid (∀ j : Nat, (hj : j < D.since.length) → (lastW (D.since.take (j + 1)) (i : Int)).getD (D.safe i) = if (D.since[j]).1 = (i : Int) then (D.since[j]).2 else (lastW (D.since.take j) i).getD (D.safe i)) := fun j hj => readV_fold D i j hj
        obtain ⟨a0, cap0, hvv⟩ := Rd.isSlice h.since.rd
        have hrd := h.since.rd
        rw [hvv] at c2 hrd
        rw [hE]
        rw [hl'] at g0
        clear hE hd hd' hl hr e1 hl'
        go_enter Try.func61, Try.ntmps61
        go_wp2_with fail
        refine (cI _ h).mono ?_
        rintro e w1 ⟨rfl, rfl⟩
        clear cI h
        go_wp2_with fail
        go_loopw [6, 36] (fun s i' wr => ∃ j : Nat, j ≤ D.since.length ∧ i' = .int .i64 j ∧ s = str ((lastW (D.since.take j) i).getD (D.safe i)) ∧ Ext [] w wr) (fun _ i' _ => D.since.length - (intOf i').toNat)
        case atStart => exact ⟨0, by omega, rfl, rfl, Ext.refl _ _⟩
        case round =>
          obtain ⟨j, hj, rfl, rfl, hx⟩ := hrel
          by_cases hlt : j < D.since.length
          · obtain ⟨g, off, rfl, hbw, hc⟩ := hrd.view (by omega)
            have c00 := hx.cell (p := ⟨g, off + j * 2, none⟩) (by simp) (hc (j * 2 + 0) (.int .i64 (D.since[j]).1) (by rw [chgs, flatMap_get _ 2 chg_len _ j 0 hlt (by omega)]; rfl))
            have c01 := hx.cell (p := ⟨g, off + (j * 2 + 1), none⟩) (by simp) (hc (j * 2 + 1) (str (D.since[j]).2) (by rw [chgs, flatMap_get _ 2 chg_len _ j 1 hlt (by omega)]; rfl))
            have HF2 := HF.out j hlt
            obtain ⟨c, hcc⟩ : ∃ c, c = D.since[j] := ⟨_, rfl⟩
            rw [← hcc] at c00 c01 HF2
            obtain ⟨cb, ct⟩ := c
            obtain ⟨s, hs⟩ : ∃ s, s = (lastW (D.since.take j) (i : Int)).getD (D.safe i) := ⟨_, rfl⟩
            rw [← hs] at HF2
            simp only [← hs]
            simp only at c00 c01 HF2
            rw [← Nat.add_assoc] at c01
            by_cases hb : cb = (i : Int)
            · rw [if_pos hb] at HF2
              have HF3 : Hid ((lastW (D.since.take (j + 1)) (i : Int)).getD (D.safe i) = ct) := HF2
              subst hb
              clear HF2 hs hcc hc
              go_wp2
              go_roundw
              case rel => exact ⟨j + 1, by omega, by go_num, by rw [HF3.out], hx.alloc _⟩
              case measure => simp [intOf]; omega
            · rw [if_neg hb] at HF2
              have HF3 : Hid ((lastW (D.since.take (j + 1)) (i : Int)).getD (D.safe i) = s) := HF2
              clear HF2 hs hcc hc
              go_wp2
              go_roundw
              case rel => exact ⟨j + 1, by omega, by go_num, by rw [HF3.out], hx.alloc _⟩
              case measure => simp [intOf]; omega
          · obtain rfl : j = D.since.length := by omega
            rw [List.take_of_length_le (Nat.le_refl _), ← hV.out]
            go_wp2
            go_ret2
            exact ⟨rfl, hx⟩
    · have e1 : decide (0 ≤ k ∧ k < (n : Int)) = false := by simpa using hr
      rw [e1] at cI
      have hsz := h.size
      have hE : readE k D = 7 := by rw [readE, if_neg hd, if_pos (by omega)]
      have hV : readV k D = [] := by rw [readV, hE, if_neg (by decide)]
      rw [hE, hV]
      clear hE hV hd hd' hr e1
      go_enter Try.func61, Try.ntmps61
      go_wp2_with fail
      refine (cI _ h).mono ?_
      rintro e w1 ⟨rfl, rfl⟩
      go_wp2
      go_ret2
      exact ⟨rfl, Ext.refl _ _⟩
end Go.Proofs.Ytpnfgkgloioddaa
