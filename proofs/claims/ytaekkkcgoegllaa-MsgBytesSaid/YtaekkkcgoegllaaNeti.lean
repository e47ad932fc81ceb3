/- Package net: a Net of the call's own, beside other blocks O; the law's head. -/
import Derived.Test.YtaekkkcgoegllaaNeth
namespace Go.Proofs.Ytaekkkcgoegllaa
open Go.RowKit
set_option linter.unusedVariables false
set_option linter.unusedSimpArgs false

theorem NetS.lt {w : World} {b : Nat} {v : Value} {now seq : Int} {A : List Lt} (h : NetS w b v now seq A) : b < w.heap.size ∧ ∀ k ∈ vblocks v, k < w.heap.size := by
  obtain ⟨L, h1, h2, h3⟩ := h
  exact ⟨h1.blk.lt, h1.own.lt⟩
def NetX (w0 w : World) (b : Nat) (now seq : Int) (A : List Lt) (O : List Nat) : Prop :=
  Ext [] w0 w ∧ w0.heap.size ≤ b ∧ ∃ v, NetS w b v now seq A ∧ (∀ k ∈ vblocks v, w0.heap.size ≤ k) ∧ ∀ k ∈ O, k < w.heap.size ∧ k ≠ b ∧ k ∉ vblocks v
def Fr (O : List Nat) (w w' : World) : Prop := ∃ F, Ext F w w' ∧ ∀ k ∈ O, k ∉ F
theorem Fr.blk {O : List Nat} {w w' : World} (h : Fr O w w') {g : Nat} {t : TypeId} {cs : List Value} (hb : Blk w g t cs) (hg : g ∈ O) : Blk w' g t cs := by
  obtain ⟨F, hx, hF⟩ := h
  exact hb.keep hx (hF g hg)
theorem Fr.of0 {O : List Nat} {w w' : World} (h : Ext [] w w') : Fr O w w' := ⟨[], h, by simp⟩
theorem NetX.mono {w0 w : World} {b : Nat} {now seq : Int} {A : List Lt} {O O' : List Nat} (h : NetX w0 w b now seq A O) (ho : ∀ k ∈ O', k ∈ O) : NetX w0 w b now seq A O' := by
  obtain ⟨h1, h2, v, h3, h4, h5⟩ := h
  exact ⟨h1, h2, v, h3, h4, fun k hk => h5 k (ho k hk)⟩
theorem NetX.ext0 {w0 w w' : World} {b : Nat} {now seq : Int} {A : List Lt} {O : List Nat} (h : NetX w0 w b now seq A O) (hx : Ext [] w w') : NetX w0 w' b now seq A O := by
  obtain ⟨h1, h2, v, h3, h4, h5⟩ := h
  have := hx.size
  exact ⟨h1.then0 hx, h2, v, h3.keep0 hx, h4, fun k hk => ⟨by have := (h5 k hk).1; omega, (h5 k hk).2⟩⟩
theorem NetX.add {w0 w w' : World} {b : Nat} {now seq : Int} {A : List Lt} {O : List Nat} (h : NetX w0 w b now seq A O) (hx : Ext [] w w') (q : Nat) (hq1 : w.heap.size ≤ q) (hq2 : q < w'.heap.size) : NetX w0 w' b now seq A (q :: O) := by
  obtain ⟨h1, h2, v, h3, h4, h5⟩ := h
  have := hx.size
  have hlt := h3.lt
  refine ⟨h1.then0 hx, h2, v, h3.keep0 hx, h4, fun k hk => ?_⟩
  rcases List.mem_cons.1 hk with rfl | hk
  · exact ⟨hq2, by omega, fun hm => by have := hlt.2 _ hm; omega⟩
  · exact ⟨by have := (h5 k hk).1; omega, (h5 k hk).2⟩
theorem NetX.lt {w0 w : World} {b : Nat} {now seq : Int} {A : List Lt} {O : List Nat} (h : NetX w0 w b now seq A O) : ∀ k ∈ O, k < w.heap.size := by
  obtain ⟨h1, h2, v, h3, h4, h5⟩ := h
  exact fun k hk => (h5 k hk).1
theorem NetX.x {w0 w : World} {b : Nat} {now seq : Int} {A : List Lt} {O : List Nat} (h : NetX w0 w b now seq A O) : Ext [] w0 w := h.1
/-- Blocks beside the Net turned, new ones made. -/
theorem NetX.other {w0 w w' : World} {b : Nat} {now seq : Int} {A : List Lt} {O F : List Nat} (h : NetX w0 w b now seq A O) (hx : Ext F w w') (hF : ∀ k ∈ F, k ∈ O ∧ w0.heap.size ≤ k) : NetX w0 w' b now seq A O := by
  obtain ⟨h1, h2, v, h3, h4, h5⟩ := h
  have := hx.size
  exact ⟨h1.trans hx (fun k hk => .inr (hF k hk).2), h2, v, h3.keep hx (fun hm => (h5 b (hF b hm).1).2.1 rfl) (fun k hk hm => (h5 k (hF k hm).1).2.2 hk), h4, fun k hk => ⟨by have := (h5 k hk).1; omega, (h5 k hk).2⟩⟩
theorem NetX.of {w0 w w' : World} {b : Nat} {v : Value} {now' seq' : Int} {A' : List Lt} {O : List Nat} (h1 : Ext [] w0 w) (h2 : w0.heap.size ≤ b) (h4 : ∀ k ∈ vblocks v, w0.heap.size ≤ k) (h5 : ∀ k ∈ O, k < w.heap.size ∧ k ≠ b ∧ k ∉ vblocks v) (h : NetR w w' b v now' seq' A') : NetX w0 w' b now' seq' A' O ∧ Fr O w w' := by
  obtain ⟨hx, v', h3, hv⟩ := h
  have hs := hx.size
  have hs0 := h1.size
  refine ⟨⟨h1.trans hx (fun k hk => .inr ?_), h2, v', h3, fun k hk => ?_, fun k hk => ⟨by have := (h5 k hk).1; omega, (h5 k hk).2.1, fun hm => ?_⟩⟩, _, hx, fun k hk hm => ?_⟩
  · rcases List.mem_cons.1 hk with rfl | hk
    · exact h2
    · exact h4 k hk
  · rcases hv k hk with h | h
    · exact h4 k h
    · omega
  · rcases hv k hm with h | h
    · exact (h5 k hk).2.2 h
    · have := (h5 k hk).1; omega
  · rcases List.mem_cons.1 hm with rfl | hm
    · exact (h5 _ hk).2.1 rfl
    · exact (h5 k hk).2.2 hm
/-- A new one. -/
theorem NetX.mk1 {w0 w w' : World} (h0 : Ext [] w0 w) (hx : Ext [] (w.alloc (.cells #[.slice none 0 0, .int .i64 0, .int .i64 0] 27)) w') : NetX w0 w' w.heap.size 0 0 [] [] := by
  have hb : Blk w' w.heap.size 27 [.slice none 0 0, .int .i64 0, .int .i64 0] := (Blk.new _ _ _).keep hx (by simp)
  exact ⟨(h0.alloc _).then0 hx, h0.size, .slice none 0 0, ⟨[], ⟨hb, Own.nil _ _ _, by simp [vblocks]⟩, fun k hk1 hk2 => by simp at hk2, List.Perm.refl _⟩, by simp [vblocks], by simp⟩
theorem xlen {w0 w : World} {b : Nat} {now seq : Int} {A : List Lt} {O : List Nat} (h : NetX w0 w b now seq A O) : Calls Try.prog 14 #[.pointer (some ⟨b, 0, none⟩)] w fun e w' => e = .returned (.int .i64 (A.length : Int)) ∧ w = w' := by
  obtain ⟨h1, h2, v, h3, h4, h5⟩ := h
  exact nlen_any h3
theorem xnow {w0 w : World} {b : Nat} {now seq : Int} {A : List Lt} {O : List Nat} (h : NetX w0 w b now seq A O) : Calls Try.prog 18 #[.pointer (some ⟨b, 0, none⟩)] w fun e w' => e = .returned (.int .i64 now) ∧ w = w' := by
  obtain ⟨h1, h2, v, h3, h4, h5⟩ := h
  exact nnow_any h3
theorem xpass {w0 w : World} {b : Nat} {now seq : Int} {A : List Lt} {O : List Nat} (h : NetX w0 w b now seq A O) (hn : 0 ≤ now ∧ now < 9223372036854775807) : Calls Try.prog 16 #[.pointer (some ⟨b, 0, none⟩)] w fun e w' => e = .returned (.tuple #[]) ∧ NetX w0 w' b (now + 1) seq A O ∧ Fr O w w' := by
  obtain ⟨h1, h2, v, h3, h4, h5⟩ := h
  refine (npass_any h3 hn).mono ?_
  rintro e w' ⟨rfl, hx, hS⟩
  exact ⟨rfl, NetX.of h1 h2 h4 h5 ⟨hx.mono (by simp), v, hS, fun k hk => .inl hk⟩⟩
theorem xclear {w0 w : World} {b : Nat} {now seq : Int} {A : List Lt} {O : List Nat} (h : NetX w0 w b now seq A O) : Calls Try.prog 17 #[.pointer (some ⟨b, 0, none⟩)] w fun e w' => e = .returned (.tuple #[]) ∧ NetX w0 w' b now seq [] O ∧ Fr O w w' := by
  obtain ⟨h1, h2, v, h3, h4, h5⟩ := h
  refine (nclear_any h3).mono ?_
  rintro e w' ⟨rfl, hx, hS⟩
  exact ⟨rfl, NetX.of h1 h2 h4 h5 ⟨hx.mono (by simp), _, hS, fun k hk => by simp [vblocks] at hk⟩⟩
theorem xsend {w0 w : World} {b : Nat} {now seq : Int} {A : List Lt} {O : List Nat} (h : NetX w0 w b now seq A O) (hA : A.length ≤ 2000) (delay : Int) (hn : 0 ≤ now ∧ now ≤ 1099511627776) (hs : 0 ≤ seq ∧ seq ≤ 1099511627776)
    (q o n c : Nat) (ms : List Ms) (hr : Rd w 17 (.slice (some ⟨q, o, none⟩) n c) n (msgs ms)) (hq : q ∈ O) (hl : ms.length ≤ 100000) :
    Calls Try.prog 13 #[.pointer (some ⟨b, 0, none⟩), .int .i64 delay, .slice (some ⟨q, o, none⟩) n c] w fun e w' => e = .returned (.tuple #[]) ∧ NetX w0 w' b now (sendF (now + min (max delay 0) 1048576) ms seq A).1 (sendF (now + min (max delay 0) 1048576) ms seq A).2 O ∧ Fr O w w' := by
  obtain ⟨h1, h2, v, h3, h4, h5⟩ := h
  refine (nsend_any h3 hA delay hn hs q o n c ms hr ⟨(h5 q hq).2.1, (h5 q hq).2.2⟩ hl).mono ?_
  rintro e w' ⟨rfl, hR⟩
  exact ⟨rfl, NetX.of h1 h2 h4 h5 hR⟩
theorem xnext_no {w0 w : World} {b : Nat} {now seq : Int} {A : List Lt} {O : List Nat} (h : NetX w0 w b now seq A O) (hA : A.length ≤ 100000) (hno : ∀ y ∈ A, now < y.due) :
    Calls Try.prog 15 #[.pointer (some ⟨b, 0, none⟩)] w fun e w' => e = .returned (.tuple #[.agg Ms.zero.cells.toArray, .bool false]) ∧ Ext [] w w' := by
  obtain ⟨h1, h2, v, h3, h4, h5⟩ := h
  by_cases h0 : A.length = 0
  · exact nnext_zero h3 h0
  · exact nnext_late h3 (by omega) hA hno
theorem xnext_yes {w0 w : World} {b : Nat} {now seq : Int} {A : List Lt} {O : List Nat} (h : NetX w0 w b now seq A O) (hA : A.length ≤ 100000) (y : Lt) (hy : y ∈ A) (hyd : y.due ≤ now) :
    Calls Try.prog 15 #[.pointer (some ⟨b, 0, none⟩)] w fun e w' => ∃ x A', A.Perm (A' ++ [x]) ∧ (∀ y ∈ A, ltL y x = false) ∧ x.due ≤ now ∧ e = .returned (.tuple #[.agg x.m.cells.toArray, .bool true]) ∧ NetX w0 w' b now seq A' O ∧ Fr O w w' := by
  obtain ⟨h1, h2, v, h3, h4, h5⟩ := h
  refine (nnext_due h3 hA y hy hyd).mono ?_
  rintro e w' ⟨x, A', hp, hm, hd, rfl, hR⟩
  exact ⟨x, A', hp, hm, hd, rfl, NetX.of h1 h2 h4 h5 hR⟩
/-- A message that is an index alone. -/
def Ms.ix (i : Int) : Ms := { Ms.zero with index := i }
theorem bld_ix (i : Int) (W : World) : (Instr.build 36 #[(4, .int .i64 i)]).run Try.prog W = .ok (.agg (Ms.ix i).cells.toArray) W := by kernel_rfl
theorem bsl_ms (m : Ms) (W : World) : (Instr.buildSlice 28 1 #[(0, .agg m.cells.toArray)]).run Try.prog W = .ok (.slice (some ⟨W.heap.size, 0, none⟩) 1 1) (W.alloc (.cells m.cells.toArray 36)) := by kernel_rfl
theorem Rd.msg1 (W w' : World) (m : Ms) (hx : Ext [] (W.alloc (.cells m.cells.toArray 36)) w') : Rd w' 17 (.slice (some ⟨W.heap.size, 0, none⟩) 1 1) 1 (msgs [m]) := by
  have := (Rd.lit W m.cells.toArray 36 17 1 rfl (by unfold maxLen; omega)).keep hx (by simp)
  simpa [msgs] using this
theorem Fr.of1 {O : List Nat} {w w1 w2 : World} (h : Fr O w w1) (hx : Ext [] w1 w2) : Fr O w w2 := by
  obtain ⟨F, h1, h2⟩ := h
  exact ⟨F, h1.trans hx (by simp), h2⟩
theorem Fr.pre0 {O : List Nat} {w w1 w2 : World} (hx : Ext [] w w1) (h : Fr O w1 w2) : Fr O w w2 := by
  obtain ⟨F, h1, h2⟩ := h
  exact ⟨F, (hx.mono (by simp)).trans h1 (fun k hk => .inl hk), h2⟩
/-- One message sent. -/
theorem xsend1 {w0 w : World} {b : Nat} {now seq : Int} {A : List Lt} {O : List Nat} (h : NetX w0 w b now seq A O) (hA : A.length < 2000) (delay : Int) (hn : 0 ≤ now ∧ now ≤ 1099511627776) (hs : 0 ≤ seq ∧ seq ≤ 1099511627776)
    (g : Nat) (hg : w.heap.size = g) (m : Ms) :
    Calls Try.prog 13 #[.pointer (some ⟨b, 0, none⟩), .int .i64 delay, .slice (some ⟨g, 0, none⟩) 1 1] (w.alloc (.cells m.cells.toArray 36)) fun e w' => e = .returned (.tuple #[]) ∧ NetX w0 w' b now (seq + 1) (A ++ [⟨now + min (max delay 0) 1048576, seq + 1, m⟩]) O ∧ Fr O w w' := by
  subst hg
  have hr := Rd.msg1 w _ m (Ext.refl _ _)
  have h1 := h.add ((Ext.refl [] w).alloc (.cells m.cells.toArray 36)) w.heap.size (Nat.le_refl _) (by simp)
  refine (xsend h1 (by omega) delay hn hs _ 0 1 1 [m] hr (by simp) (by simp)).mono ?_
  rintro e w' ⟨rfl, h2, F, hx, hF⟩
  rw [sendF, if_neg (by omega), sendF] at h2
  exact ⟨rfl, h2.mono (fun k hk => by simp [hk]), Fr.pre0 ((Ext.refl [] w).alloc _) ⟨F, hx, fun k hk => hF k (by simp [hk])⟩⟩
end Go.Proofs.Ytaekkkcgoegllaa
