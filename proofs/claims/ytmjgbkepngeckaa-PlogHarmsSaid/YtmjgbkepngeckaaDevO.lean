/- A device of the call's own, beside other blocks of its own; slot.Read, slot.Write. -/
import Derived.Test.YtmjgbkepngeckaaDevN
import Derived.Test.YtmjgbkepngeckaaSlotd
namespace Go.Proofs.Ytmjgbkepngeckaa
open Go.RowKit
set_option linter.unusedVariables false

/-- As DevN; the blocks O lie outside the device. -/
def DevO (w0 w : World) (b : Nat) (D : Dv) (O : List Nat) : Prop := (∃ F, DevAt w b F D ∧ (∀ k ∈ F, w0.heap.size ≤ k) ∧ ∀ q ∈ O, q ∉ F ∧ q < w.heap.size) ∧ Ext [] w0 w ∧ DvOk D
def Kept (O : List Nat) (w w' : World) : Prop := ∀ q ∈ O, ∀ o, w.heap[q]? = some o → w'.heap[q]? = some o
theorem Kept.refl (O : List Nat) (w : World) : Kept O w w := fun q hq o h => h
theorem Kept.of {O : List Nat} {w w' : World} (hx : Ext [] w w') : Kept O w w' := fun q _ o h => hx.heap (by simp) h
theorem Kept.trans {O : List Nat} {w w' w'' : World} (h : Kept O w w') (h2 : Kept O w' w'') : Kept O w w'' := fun q hq o ho => h2 q hq o (h q hq o ho)
theorem DevN.o {w0 w : World} {b : Nat} {D : Dv} (h : DevN w0 w b D) : DevO w0 w b D [] := by
  obtain ⟨⟨F, hF, hl⟩, h1, h2⟩ := h
  exact ⟨⟨F, hF, hl, by simp⟩, h1, h2⟩
theorem DevO.n {w0 w : World} {b : Nat} {D : Dv} {O : List Nat} (h : DevO w0 w b D O) : DevN w0 w b D := by
  obtain ⟨⟨F, hF, hl, ho⟩, h1, h2⟩ := h
  exact ⟨⟨F, hF, hl⟩, h1, h2⟩
theorem DevO.ext {w0 w : World} {b : Nat} {D : Dv} {O : List Nat} (h : DevO w0 w b D O) : Ext [] w0 w := h.2.1
theorem DevO.ok {w0 w : World} {b : Nat} {D : Dv} {O : List Nat} (h : DevO w0 w b D O) : DvOk D := h.2.2
theorem DevO.lt {w0 w : World} {b : Nat} {D : Dv} {O : List Nat} (h : DevO w0 w b D O) : ∀ q ∈ O, q < w.heap.size := by
  obtain ⟨⟨F, hF, hl, ho⟩, h1, h2⟩ := h
  exact fun q hq => (ho q hq).2
theorem DevO.keep {w0 w w' : World} {b : Nat} {D : Dv} {O : List Nat} (h : DevO w0 w b D O) (hx : Ext [] w w') : DevO w0 w' b D O := by
  obtain ⟨⟨F, hF, hl, ho⟩, h1, h2⟩ := h
  exact ⟨⟨F, hF.keep0 hx, hl, fun q hq => ⟨(ho q hq).1, Nat.lt_of_lt_of_le (ho q hq).2 hx.size⟩⟩, h1.then0 hx, h2⟩
theorem DevO.add {w0 w w' : World} {b : Nat} {D : Dv} {O : List Nat} (h : DevO w0 w b D O) (hx : Ext [] w w') (q : Nat) (h1 : w.heap.size ≤ q) (h2 : q < w'.heap.size) : DevO w0 w' b D (q :: O) := by
  obtain ⟨⟨F, hF, hl, ho⟩, h3, h4⟩ := h
  obtain ⟨F', hF', hs⟩ := hF.small
  refine ⟨⟨F', hF'.keep0 hx, fun k hk => hl k (hs k hk).1, fun p hp => ?_⟩, h3.then0 hx, h4⟩
  rcases List.mem_cons.1 hp with rfl | hp
  · exact ⟨fun hm => by have := (hs _ hm).2; omega, h2⟩
  · exact ⟨fun hm => (ho p hp).1 (hs _ hm).1, Nat.lt_of_lt_of_le (ho p hp).2 hx.size⟩
/-- A block beside the device turned. -/
theorem DevO.other {w0 w w' : World} {b : Nat} {D : Dv} {O : List Nat} {q : Nat} (h : DevO w0 w b D O) (hx : Ext [q] w w') (hq : q ∈ O) (h1 : w0.heap.size ≤ q) : DevO w0 w' b D O := by
  obtain ⟨⟨F, hF, hl, ho⟩, h3, h4⟩ := h
  refine ⟨⟨F, hF.keep hx (fun k hk hm => ?_), hl, fun p hp => ⟨(ho p hp).1, Nat.lt_of_lt_of_le (ho p hp).2 hx.size⟩⟩, h3.trans hx (by simpa using h1), h4⟩
  obtain rfl : k = q := by simpa using hm
  exact (ho k hq).1 hk
theorem DevO.to {w0 w w' : World} {b : Nat} {F : List Nat} {D D' : Dv} {O : List Nat} (h : DevTo w w' b F D') (hl : ∀ k ∈ F, w0.heap.size ≤ k) (ho : ∀ q ∈ O, q ∉ F ∧ q < w.heap.size) (hx : Ext [] w0 w) (hok : DvOk D') : DevO w0 w' b D' O ∧ Kept O w w' := by
  obtain ⟨h1, F', h2, h3⟩ := h
  have hsz := hx.size
  have hsz2 := h1.size
  refine ⟨⟨⟨F', h2, fun k hk => (h3 k hk).elim (hl k) (fun h => by omega), fun q hq => ⟨fun hm => ?_, by have := (ho q hq).2; omega⟩⟩, hx.trans h1 (fun k hk => .inr (hl k hk)), hok⟩, fun q hq o h => h1.heap (ho q hq).1 h⟩
  rcases h3 q hm with h | h
  · exact (ho q hq).1 h
  · have := (ho q hq).2; omega
theorem write_o (b : Nat) (D : Dv) (k : Int) (s : List UInt8) (w0 w : World) (O : List Nat) (h : DevO w0 w b D O) (hlen : D.since.length ≤ 1000000) :
    Calls Try.prog 57 #[.pointer (some ⟨b, 0, none⟩), .int .i64 k, str s] w fun e w' => e = .returned (.int .i64 (writeE k s D)) ∧ DevO w0 w' b (writeD k s D) O ∧ Kept O w w' := by
  obtain ⟨⟨F, hF, hl, ho⟩, hx, hok⟩ := h
  exact (write_any b F D k s w hF hok hlen).mono fun e w' ⟨he, ht⟩ => ⟨he, DevO.to (D := D) ht hl ho hx (hok.write k s)⟩
theorem flush_o (b : Nat) (D : Dv) (w0 w : World) (O : List Nat) (h : DevO w0 w b D O) :
    Calls Try.prog 56 #[.pointer (some ⟨b, 0, none⟩)] w fun e w' => e = .returned (.int .i64 (turnE D)) ∧ DevO w0 w' b (flushD D) O ∧ Kept O w w' := by
  obtain ⟨⟨F, hF, hl, ho⟩, hx, hok⟩ := h
  exact (flush_any b F D w hF hok).mono fun e w' ⟨he, ht⟩ => ⟨he, DevO.to (D := D) ht hl ho hx hok.flush⟩
theorem fall_o (b : Nat) (D : Dv) (n : Int) (w0 w : World) (O : List Nat) (h : DevO w0 w b D O) (hn : n ≤ 9223372036854775807) :
    Calls Try.prog 31 #[.pointer (some ⟨b, 0, none⟩), .int .i64 n] w fun e w' => e = .returned (.tuple #[]) ∧ DevO w0 w' b (fallD n D) O ∧ Kept O w w' := by
  obtain ⟨⟨F, hF, hl, ho⟩, hx, hok⟩ := h
  exact (fall_any b F D n w hF).mono fun e w' ⟨he, ht⟩ => ⟨he, DevO.to (D := D) ht hl ho hx (hok.fallD n hn)⟩
theorem lose_o (b : Nat) (D : Dv) (k : Int) (w0 w : World) (O : List Nat) (h : DevO w0 w b D O) :
    Calls Try.prog 28 #[.pointer (some ⟨b, 0, none⟩), .int .i64 k] w fun e w' => e = .returned (.tuple #[]) ∧ DevO w0 w' b (loseD k D) O ∧ Kept O w w' := by
  obtain ⟨⟨F, hF, hl, ho⟩, hx, hok⟩ := h
  exact (lose_any b F D k w hF).mono fun e w' ⟨he, ht⟩ => ⟨he, DevO.to (D := D) ht hl ho hx (hok.lose k)⟩
theorem flip_o (b : Nat) (D : Dv) (k at_ : Int) (c : UInt8) (w0 w : World) (O : List Nat) (h : DevO w0 w b D O) (hat : -9223372036854775808 ≤ at_ ∧ at_ ≤ 9223372036854775807) :
    Calls Try.prog 39 #[.pointer (some ⟨b, 0, none⟩), .int .i64 k, .int .i64 at_, .int .u8 (c.toNat : Int)] w fun e w' => e = .returned (.tuple #[]) ∧ DevO w0 w' b (flipD k at_ c D) O ∧ Kept O w w' := by
  obtain ⟨⟨F, hF, hl, ho⟩, hx, hok⟩ := h
  exact (flip_any b F D k at_ c w hF hok hat).mono fun e w' ⟨he, ht⟩ => ⟨he, DevO.to (D := D) ht hl ho hx (hok.flip k at_ c)⟩
theorem dread_o (b : Nat) (D : Dv) (k : Int) (w0 w : World) (O : List Nat) (h : DevO w0 w b D O) :
    Calls Try.prog 37 #[.pointer (some ⟨b, 0, none⟩), .int .i64 k] w fun e w' => e = .returned (.tuple #[str (readV k D), .int .i64 (readE k D)]) ∧ DevO w0 w' b D O ∧ Ext [] w w' := by
  exact (dread_n b D k w0 w h.n).mono fun e w' ⟨he, _, hx⟩ => ⟨he, h.keep hx, hx⟩

/-- What slot.Read answers. -/
def srE (k : Int) (D : Dv) : Int := if readE k D = 6 then 0 else readE k D
def srS (k : Int) (D : Dv) : Int := if readE k D = 6 then 2 else if readE k D = 0 then getS (readV k D) else 0
def srR (k : Int) (D : Dv) : Rc := if readE k D = 0 then getR (readV k D) else Rc.zero
def swE (k : Int) (r : Rc) (D : Dv) : Int := if putE r = 0 then writeE k (putV r) D else putE r
def swD (k : Int) (r : Rc) (D : Dv) : Dv := if putE r = 0 then writeD k (putV r) D else D
theorem DvOk.slot {D : Dv} (h : DvOk D) (k : Int) (r : Rc) : DvOk (swD k r D) := by
  unfold swD; split
  · exact h.write k _
  · exact h
theorem readE_cases (k : Int) (D : Dv) : readE k D = 0 ∨ readE k D = 5 ∨ readE k D = 6 ∨ readE k D = 7 := by
  unfold readE; repeat' split
  all_goals simp

set_option maxHeartbeats 800000 in
theorem swrite_o (b : Nat) (D : Dv) (k : Int) (r : Rc) (w0 w : World) (O : List Nat) (h : DevO w0 w b D O) (hlen : D.since.length ≤ 1000000) (hwf : r.wf) :
    Calls Try.prog 55 #[.pointer (some ⟨b, 0, none⟩), .int .i64 k, r.val] w fun e w' => e = .returned (.int .i64 (swE k r D)) ∧ DevO w0 w' b (swD k r D) O ∧ Kept O w w' := by
  have cp := fun W => sput_any r W hwf
  have HE : Hid (swE k r D = if putE r = 0 then writeE k (putV r) D else putE r) := rfl
  have HD : Hid (swD k r D = if putE r = 0 then writeD k (putV r) D else D) := rfl
  obtain ⟨v, hv⟩ : ∃ v, v = putV r := ⟨_, rfl⟩
  obtain ⟨x, hx⟩ : ∃ v, v = putE r := ⟨_, rfl⟩
  obtain ⟨E, hE⟩ : ∃ v, v = swE k r D := ⟨_, rfl⟩
  obtain ⟨D', hD⟩ : ∃ v, v = swD k r D := ⟨_, rfl⟩
  unfold PutPost at cp
  rw [← hv, ← hx] at cp HE HD
  rw [← hE] at HE ⊢
  rw [← hD] at HD ⊢
  clear hv hx hE hD hwf
  obtain ⟨k1, i1, t1, d1⟩ := r
  unfold Rc.val at cp ⊢
  simp only at cp ⊢
  go_enter Try.func55, Try.ntmps55
  go_wp2_with fail
  refine (cp _).mono ?_
  rintro e w1 ⟨rfl, hx⟩
  have hx1 : Ext [] w w1 := ((Ext.refl _ _).alloc _).then0 hx
  clear hx cp
  by_cases h0 : x = 0
  · subst h0
    rw [if_pos rfl] at HE HD
    go_wp2_with fail
    refine (write_o b D k v w0 w1 O (h.keep hx1) hlen).mono ?_
    rintro e w2 ⟨rfl, h2, hk⟩
    go_wp2
    go_ret
    rw [HE.out, HD.out]
    exact ⟨rfl, h2, (Kept.of hx1).trans hk⟩
  · rw [if_neg h0] at HE HD
    go_wp2
    go_ret
    rw [HE.out, HD.out]
    exact ⟨rfl, h.keep hx1, Kept.of hx1⟩
end Go.Proofs.Ytmjgbkepngeckaa
