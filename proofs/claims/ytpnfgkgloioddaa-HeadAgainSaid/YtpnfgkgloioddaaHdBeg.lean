/- Layer 5's example, what may be a head, and the contracts of Open, Put and Scrub by cases. -/
import Derived.Test.YtpnfgkgloioddaaHdLaw2
namespace Go.Proofs.Ytpnfgkgloioddaa
open Go.RowKit
set_option linter.unusedVariables false
set_option linter.unusedSimpArgs false

theorem open_yes {b : Nat} {D : Dv} {w0 w : World} {O : List Nat} (h : DevO w0 w b D O) {t : Int} {hd : Hd} (hE : openE D = 0 ∧ (osK D 2).h = hd ∧ (osK D 2).turn = t) : Calls Try.prog 44 #[.pointer (some ⟨b, 0, none⟩)] w
    fun e w' => ∃ q, e = .returned (.tuple #[.pointer (some ⟨q, 0, none⟩), .int .i64 0]) ∧ StAt w' q b t hd ∧ DevO w0 w' b D (q :: O) ∧ Ext [] w w' ∧ w.heap.size ≤ q := by
  refine (open_o b D w0 w O h).mono ?_
  intro e w' hp
  unfold OpenPost at hp
  rw [if_pos hE.1, hE.2.1, hE.2.2] at hp
  exact hp
theorem open_no {b : Nat} {D : Dv} {w0 w : World} {O : List Nat} (h : DevO w0 w b D O) {n : Int} (hE : openE D = n) (hn : n ≠ 0) : Calls Try.prog 44 #[.pointer (some ⟨b, 0, none⟩)] w
    fun e w' => e = .returned (.tuple #[.pointer none, .int .i64 n]) ∧ DevO w0 w' b D O ∧ Ext [] w w' := by
  refine (open_o b D w0 w O h).mono ?_
  intro e w' hp
  unfold OpenPost at hp
  rw [if_neg (by rw [hE]; exact hn), hE] at hp
  exact hp
theorem put_yes {q b : Nat} {t : Int} {h0 h : Hd} {D : Dv} {O : List Nat} (O' : List Nat) {w0 w : World} (hd : DevO w0 w b D O) (hq : q ∈ O) (hq0 : w0.heap.size ≤ q) (hs : StAt w q b t h0) (ht : 0 ≤ t) (ht2 : t ≤ 281474976710655)
    (hO : ∀ x ∈ O', x ∈ O ∧ x ≠ q) (hlen : D.since.length ≤ 900000) (hE : putHE t h D = 0) :
    Calls Try.prog 45 #[.pointer (some ⟨q, 0, none⟩), h.val] w fun e w' => e = .returned (.int .i64 0) ∧ DevO w0 w' b (putHD t h D) O ∧ StAt w' q b (t + 1) h ∧ Kept O' w w' := by
  refine (hput_o q b t h0 h D O O' w0 w hd hq hq0 hs ht ht2 hO hlen).mono ?_
  rintro e w' ⟨h1, h2, h3, h4⟩
  rw [hE] at h1
  rw [if_pos hE, if_pos hE] at h3
  exact ⟨h1, h2, h3, h4⟩
theorem put_no {q b : Nat} {t : Int} {h0 h : Hd} {D : Dv} {O : List Nat} (O' : List Nat) {w0 w : World} (hd : DevO w0 w b D O) (hq : q ∈ O) (hq0 : w0.heap.size ≤ q) (hs : StAt w q b t h0) (ht : 0 ≤ t) (ht2 : t ≤ 281474976710655)
    (hO : ∀ x ∈ O', x ∈ O ∧ x ≠ q) (hlen : D.since.length ≤ 900000) {n : Int} (hE : putHE t h D = n) (hn : n ≠ 0) :
    Calls Try.prog 45 #[.pointer (some ⟨q, 0, none⟩), h.val] w fun e w' => e = .returned (.int .i64 n) ∧ DevO w0 w' b (putHD t h D) O ∧ StAt w' q b t h0 ∧ Kept O' w w' := by
  refine (hput_o q b t h0 h D O O' w0 w hd hq hq0 hs ht ht2 hO hlen).mono ?_
  rintro e w' ⟨h1, h2, h3, h4⟩
  rw [hE] at h1
  rw [if_neg (by rw [hE]; exact hn), if_neg (by rw [hE]; exact hn)] at h3
  exact ⟨h1, h2, h3, h4⟩
theorem scrub_no {q b : Nat} {t : Int} {h : Hd} {D : Dv} {O : List Nat} (O' : List Nat) {w0 w : World} (hd : DevO w0 w b D O) (hq : q ∈ O) (hq0 : w0.heap.size ≤ q) (hs : StAt w q b t h) (ht : 0 ≤ t) (ht2 : t ≤ 281474976710655)
    (hO : ∀ x ∈ O', x ∈ O ∧ x ≠ q) (hlen : D.since.length ≤ 900000) {n : Int} (hE : ¬ scPut t h D ∧ scE D = n) :
    Calls Try.prog 47 #[.pointer (some ⟨q, 0, none⟩)] w fun e w' => e = .returned (.int .i64 n) ∧ DevO w0 w' b D O ∧ StAt w' q b t h ∧ Ext [] w w' := by
  refine (scrub_o q b t h D O O' w0 w hd hq hq0 hs ht ht2 hO hlen).mono ?_
  intro e w' hp
  unfold ScPost at hp
  rw [if_neg hE.1, hE.2] at hp
  exact hp
theorem scrub_yes {q b : Nat} {t : Int} {h : Hd} {D : Dv} {O : List Nat} (O' : List Nat) {w0 w : World} (hd : DevO w0 w b D O) (hq : q ∈ O) (hq0 : w0.heap.size ≤ q) (hs : StAt w q b t h) (ht : 0 ≤ t) (ht2 : t ≤ 281474976710655)
    (hO : ∀ x ∈ O', x ∈ O ∧ x ≠ q) (hlen : D.since.length ≤ 900000) (hP : scPut t h D) (hE : putHE t h D = 0) :
    Calls Try.prog 47 #[.pointer (some ⟨q, 0, none⟩)] w fun e w' => e = .returned (.int .i64 0) ∧ DevO w0 w' b (putHD t h D) O ∧ StAt w' q b (t + 1) h ∧ Kept O' w w' := by
  refine (scrub_o q b t h D O O' w0 w hd hq hq0 hs ht ht2 hO hlen).mono ?_
  intro e w' hp
  unfold ScPost at hp
  rw [if_pos hP] at hp
  obtain ⟨h1, h2, h3, h4⟩ := hp
  rw [hE] at h1
  rw [if_pos hE, if_pos hE] at h3
  exact ⟨h1, h2, h3, h4⟩

set_option maxRecDepth 100000 in
set_option maxHeartbeats 1600000 in
theorem right_any (h : Hd) (w : World) : Calls Try.prog 43 #[h.val] w fun e w' => e = .returned (.bool (decide h.right)) ∧ Ext [] w w' := by
  have hxz : ∀ a c d e : Value, Ext [] w (w.alloc (.cells #[a, c, d, e] 75)) := fun a c d e => (Ext.refl _ _).alloc _
  by_cases hr : h.right
  · have HR : Hid (decide h.right = true) := by show _ = _; simpa using hr
    obtain ⟨x, v, f, bb⟩ := h
    obtain ⟨h1, h2, h3, h4, h5, h6, h7, h8⟩ := hr
    rw [HR.out]
    unfold Hd.val
    simp only at h1 h2 h3 h4 h5 h6 h7 h8 ⊢
    clear HR
    go_enter Try.func43, Try.ntmps43
    go_wp2
    go_ret
    refine ⟨?_, hxz _ _ _ _⟩
    first | rfl | (show Ending.returned (.bool (decide (bb ≤ 281474976710655))) = _; simp; omega)
  · have HR : Hid (decide h.right = false) := by show _ = _; simpa using hr
    obtain ⟨x, v, f, bb⟩ := h
    rw [HR.out]
    have hcs : x < 0 ∨ (0 ≤ x ∧ v < 0) ∨ (0 ≤ x ∧ 0 ≤ v ∧ 7 < v) ∨ (0 ≤ x ∧ 0 ≤ v ∧ v ≤ 7 ∧ f < 1) ∨ (0 ≤ x ∧ 0 ≤ v ∧ v ≤ 7 ∧ 1 ≤ f ∧ bb < 0) ∨ (0 ≤ x ∧ 0 ≤ v ∧ v ≤ 7 ∧ 1 ≤ f ∧ 0 ≤ bb ∧ 281474976710655 < x) ∨ (0 ≤ x ∧ 0 ≤ v ∧ v ≤ 7 ∧ 1 ≤ f ∧ 0 ≤ bb ∧ x ≤ 281474976710655 ∧ 281474976710655 < f) ∨ (0 ≤ x ∧ 0 ≤ v ∧ v ≤ 7 ∧ 1 ≤ f ∧ 0 ≤ bb ∧ x ≤ 281474976710655 ∧ f ≤ 281474976710655 ∧ 281474976710655 < bb) := by
      unfold Hd.right at hr
      simp only at hr
      omega
    unfold Hd.val
    simp only
    clear HR hr
    rcases hcs with h | ⟨g1, h⟩ | ⟨g1, g2, h⟩ | ⟨g1, g2, g3, h⟩ | ⟨g1, g2, g3, g4, h⟩ | ⟨g1, g2, g3, g4, g5, h⟩ | ⟨g1, g2, g3, g4, g5, g6, h⟩ | ⟨g1, g2, g3, g4, g5, g6, g7, h⟩
    all_goals (
      go_enter Try.func43, Try.ntmps43
      go_wp2
      go_ret
      refine ⟨?_, hxz _ _ _ _⟩
      first | rfl | (show Ending.returned (.bool (decide (bb ≤ 281474976710655))) = _; simp; omega))

def hb3 : Hd := ⟨3, 0, 1, 0⟩
theorem hb3_right : hb3.right := by decide
set_option maxRecDepth 100000 in
set_option maxHeartbeats 1600000 in
theorem begin5_any (w : World) : Calls Try.prog 42 #[] w fun e w' => e = .returned (.bool true) ∧ Ext [] w w' := by
  have t4 : Two (newD 4) := Two.new 4 (by decide)
  have hp := put_two t4 (t := 0) (hd := hb3) ⟨hb3_right, by decide⟩ (by decide)
  have hg := hp.2.1
  have hP : Hid (putHE 0 hb3 (newD 4) = 0) := hp.1
  have h2 := hg.lose0 hb3_right (by decide) (by decide)
  have hO2 : Hid (openE (loseD 0 (putHD 0 hb3 (newD 4))) = 0 ∧ (osK (loseD 0 (putHD 0 hb3 (newD 4))) 2).h = hb3 ∧ (osK (loseD 0 (putHD 0 hb3 (newD 4))) 2).turn = 1) := open_bg h2.1 h2.2
  clear t4 hp hg h2
  go_enter Try.func42, Try.ntmps42
  go_wp2_with fail
  refine (new_n 4 w w (Ext.refl _ _)).mono ?_
  rintro e w1 ⟨b, rfl, hd, -⟩
  go_wp2_with fail
  refine (open_yes hd.o (open_new (by decide))).mono ?_
  rintro e w2 ⟨q, rfl, hs, hd2, hx2, hq⟩
  have hqw : w.heap.size ≤ q := by have := hd.ext.size; omega
  clear hd hx2 hq
  go_wp2_with fail
  refine (head_o q b 0 Hd.one w2 hs).mono ?_
  rintro e w3 ⟨rfl, hx3⟩
  replace hd2 := hd2.keep hx3
  replace hs := hs.keep hx3 (by simp)
  clear hx3
  unfold Hd.val Hd.one
  simp only
  go_wp2_with fail
  refine (put_yes (h := hb3) [] hd2 (by simp) hqw hs (by decide) (by decide) (by simp) (by decide) hP.out).mono ?_
  rintro e w4 ⟨rfl, hd4, hs4, -⟩
  clear hd2 hs hP
  go_wp2_with fail
  refine (lose_o b _ 0 w w4 [q] hd4).mono ?_
  rintro e w5 ⟨rfl, hd5, hk5⟩
  clear hd4 hs4 hk5
  go_wp2_with fail
  refine (open_yes hd5 hO2.out).mono ?_
  rintro e w6 ⟨q2, rfl, hs6, hd6, hx6, -⟩
  clear hd5 hx6 hO2
  go_wp2_with fail
  refine (head_o q2 b 1 hb3 w6 hs6).mono ?_
  rintro e w7 ⟨rfl, hx7⟩
  have hx := hd6.ext.then0 hx7
  clear hd6 hs6 hx7
  unfold Hd.val hb3
  simp only
  have hfd : ∀ w : World, (Instr.field 75 (.agg #[.int .i64 3, .int .i64 0, .int .i64 1, .int .i64 0]) 0).run Try.prog w = .ok (.int .i64 3) w := fun _ => by kernel_rfl
  go_wp2
  go_ret
  exact ⟨rfl, hx⟩
end Go.Proofs.Ytpnfgkgloioddaa
