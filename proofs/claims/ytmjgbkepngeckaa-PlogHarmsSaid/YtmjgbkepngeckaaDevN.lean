/- A device of the call's own: the contracts once more, over one word. -/
import Derived.Test.YtmjgbkepngeckaaDevc
import Derived.Test.YtmjgbkepngeckaaDevr
import Derived.Test.YtmjgbkepngeckaaDevf
namespace Go.Proofs.Ytmjgbkepngeckaa
open Go.RowKit
set_option linter.unusedVariables false

/-- At block b of w lies a device that was made since w0, of which nothing has turned. -/
def DevN (w0 w : World) (b : Nat) (D : Dv) : Prop := (∃ F, DevAt w b F D ∧ ∀ k ∈ F, w0.heap.size ≤ k) ∧ Ext [] w0 w ∧ DvOk D
theorem DevN.ext {w0 w : World} {b : Nat} {D : Dv} (h : DevN w0 w b D) : Ext [] w0 w := h.2.1
theorem DevN.ok {w0 w : World} {b : Nat} {D : Dv} (h : DevN w0 w b D) : DvOk D := h.2.2
theorem DevN.keep {w0 w w' : World} {b : Nat} {D : Dv} (h : DevN w0 w b D) (hx : Ext [] w w') : DevN w0 w' b D := by
  obtain ⟨⟨F, hF, hl⟩, h1, h2⟩ := h
  exact ⟨⟨F, hF.keep0 hx, hl⟩, h1.then0 hx, h2⟩
theorem DevN.to {w0 w w' : World} {b : Nat} {F : List Nat} {D D' : Dv} (h : DevTo w w' b F D') (hl : ∀ k ∈ F, w0.heap.size ≤ k) (hx : Ext [] w0 w) (hok : DvOk D') : DevN w0 w' b D' := by
  obtain ⟨h1, F', h2, h3⟩ := h
  have := hx.size
  exact ⟨⟨F', h2, fun k hk => (h3 k hk).elim (hl k) (fun h => by omega)⟩, hx.trans h1 (fun k hk => .inr (hl k hk)), hok⟩
/-- A pointer to such a device is handed back. -/
def NewN (w0 w : World) (D : Dv) (e : Ending) (w' : World) : Prop := ∃ b, e = .returned (.pointer (some ⟨b, 0, none⟩)) ∧ DevN w0 w' b D ∧ Ext [] w w'

theorem new_n (n : Int) (w0 w : World) (hx : Ext [] w0 w) : Calls Try.prog 34 #[.int .i64 n] w (NewN w0 w (newD n)) :=
  (new_any n w).mono fun e w' ⟨he, hi, hx2, hsz⟩ => ⟨_, he, ⟨⟨_, hi.at, fun k hk => by
    have := hx.size
    simp only [List.mem_cons, vblocks, List.not_mem_nil, or_false] at hk
    rcases hk with rfl | rfl | rfl | rfl <;> omega⟩, hx.then0 hx2, DvOk.new n⟩, hx2⟩
theorem crash_n (b : Nat) (D : Dv) (a : Option Addr) (len cap : Nat) (fs : List Int) (w0 w : World) (h : DevN w0 w b D) (hR : Rd w 1 (.slice a len cap) len (fs.map (Value.int .i64))) :
    Calls Try.prog 24 #[.pointer (some ⟨b, 0, none⟩), .slice a len cap] w (NewN w0 w (crashD fs D)) := by
  obtain ⟨⟨F, hF, hl⟩, hx, hok⟩ := h
  refine (crash_any b F D a len cap fs w hF hok hR).mono fun e w' ⟨b', F', he, hd, hl', hx2⟩ => ⟨b', he, ⟨⟨F', hd, fun k hk => ?_⟩, hx.then0 hx2, hok.crash fs⟩, hx2⟩
  have := hx.size
  have := hl' k hk
  omega
theorem write_n (b : Nat) (D : Dv) (k : Int) (s : List UInt8) (w0 w : World) (h : DevN w0 w b D) (hlen : D.since.length ≤ 1000000) :
    Calls Try.prog 57 #[.pointer (some ⟨b, 0, none⟩), .int .i64 k, str s] w fun e w' => e = .returned (.int .i64 (writeE k s D)) ∧ DevN w0 w' b (writeD k s D) := by
  obtain ⟨⟨F, hF, hl⟩, hx, hok⟩ := h
  exact (write_any b F D k s w hF hok hlen).mono fun e w' ⟨he, ht⟩ => ⟨he, DevN.to (D := D) ht hl hx (hok.write k s)⟩
theorem flush_n (b : Nat) (D : Dv) (w0 w : World) (h : DevN w0 w b D) :
    Calls Try.prog 56 #[.pointer (some ⟨b, 0, none⟩)] w fun e w' => e = .returned (.int .i64 (turnE D)) ∧ DevN w0 w' b (flushD D) := by
  obtain ⟨⟨F, hF, hl⟩, hx, hok⟩ := h
  exact (flush_any b F D w hF hok).mono fun e w' ⟨he, ht⟩ => ⟨he, DevN.to (D := D) ht hl hx hok.flush⟩
theorem fall_n (b : Nat) (D : Dv) (n : Int) (w0 w : World) (h : DevN w0 w b D) (hn : n ≤ 9223372036854775807) :
    Calls Try.prog 31 #[.pointer (some ⟨b, 0, none⟩), .int .i64 n] w fun e w' => e = .returned (.tuple #[]) ∧ DevN w0 w' b (fallD n D) := by
  obtain ⟨⟨F, hF, hl⟩, hx, hok⟩ := h
  exact (fall_any b F D n w hF).mono fun e w' ⟨he, ht⟩ => ⟨he, DevN.to (D := D) ht hl hx (hok.fallD n hn)⟩
theorem lose_n (b : Nat) (D : Dv) (k : Int) (w0 w : World) (h : DevN w0 w b D) :
    Calls Try.prog 28 #[.pointer (some ⟨b, 0, none⟩), .int .i64 k] w fun e w' => e = .returned (.tuple #[]) ∧ DevN w0 w' b (loseD k D) := by
  obtain ⟨⟨F, hF, hl⟩, hx, hok⟩ := h
  exact (lose_any b F D k w hF).mono fun e w' ⟨he, ht⟩ => ⟨he, DevN.to (D := D) ht hl hx (hok.lose k)⟩
theorem flip_n (b : Nat) (D : Dv) (k at_ : Int) (c : UInt8) (w0 w : World) (h : DevN w0 w b D) (hat : -9223372036854775808 ≤ at_ ∧ at_ ≤ 9223372036854775807) :
    Calls Try.prog 39 #[.pointer (some ⟨b, 0, none⟩), .int .i64 k, .int .i64 at_, .int .u8 (c.toNat : Int)] w fun e w' => e = .returned (.tuple #[]) ∧ DevN w0 w' b (flipD k at_ c D) := by
  obtain ⟨⟨F, hF, hl⟩, hx, hok⟩ := h
  exact (flip_any b F D k at_ c w hF hok hat).mono fun e w' ⟨he, ht⟩ => ⟨he, DevN.to (D := D) ht hl hx (hok.flip k at_ c)⟩
theorem dread_n (b : Nat) (D : Dv) (k : Int) (w0 w : World) (h : DevN w0 w b D) :
    Calls Try.prog 37 #[.pointer (some ⟨b, 0, none⟩), .int .i64 k] w fun e w' => e = .returned (.tuple #[str (readV k D), .int .i64 (readE k D)]) ∧ DevN w0 w' b D ∧ Ext [] w w' := by
  obtain ⟨F, hF, hl⟩ := h.1
  exact (dread_any b F D k w hF).mono fun e w' ⟨he, hx⟩ => ⟨he, h.keep hx, hx⟩
theorem down_n (b : Nat) (D : Dv) (w0 w : World) (h : DevN w0 w b D) : Calls Try.prog 36 #[.pointer (some ⟨b, 0, none⟩)] w fun e w' => e = .returned (.bool D.down) ∧ w = w' := by
  obtain ⟨F, hF, hl⟩ := h.1
  exact down_any b F D w hF
theorem size_n (b : Nat) (D : Dv) (w0 w : World) (h : DevN w0 w b D) : Calls Try.prog 41 #[.pointer (some ⟨b, 0, none⟩)] w fun e w' => e = .returned (.int .i64 D.size) ∧ w = w' := by
  obtain ⟨F, hF, hl⟩ := h.1
  exact size_any b F D w hF

theorem Rd.ints1 {w : World} {e : TypeId} {g : Nat} (a : Int) (hg : w.heap.size = g := by simp) : Rd (w.alloc (.cells #[.int .i64 a] e)) 1 (.slice (some ⟨g, 0, none⟩) 1 1) 1 ([a].map (Value.int .i64)) :=
  Rd.litg #[.int .i64 a] e 1 1 rfl (by unfold maxLen; omega) hg

end Go.Proofs.Ytmjgbkepngeckaa
