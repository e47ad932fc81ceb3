/- Layer 4's example, a rec that came in, recs compared. -/
import Derived.Test.YtpnfgkgloioddaaSlotg
import Derived.Test.YtpnfgkgloioddaaDevN
namespace Go.Proofs.Ytpnfgkgloioddaa
open Go.RowKit
set_option linter.unusedVariables false

/-- A rec lies in block q. -/
def RcAt (w : World) (q : Nat) (r : Rc) : Prop := w.heap[q]? = some (.cells #[.int .i64 r.kind, .int .i64 r.idx, .int .i64 r.term, str r.data] 40 (0, 0))
theorem RcAt.lt {w : World} {q : Nat} {r : Rc} (h : RcAt w q r) : q < w.heap.size := (Array.getElem?_eq_some_iff.1 h).1
theorem RcAt.c0 {w : World} {q : Nat} {r : Rc} (h : RcAt w q r) : w.cell? ⟨q, 0, none⟩ = some (.int .i64 r.kind) := by rw [cell_row h]; rfl
theorem RcAt.c1 {w : World} {q : Nat} {r : Rc} (h : RcAt w q r) : w.cell? ⟨q, 1, none⟩ = some (.int .i64 r.idx) := by rw [cell_row h]; rfl
theorem RcAt.c2 {w : World} {q : Nat} {r : Rc} (h : RcAt w q r) : w.cell? ⟨q, 2, none⟩ = some (.int .i64 r.term) := by rw [cell_row h]; rfl
theorem RcAt.c3 {w : World} {q : Nat} {r : Rc} (h : RcAt w q r) : w.cell? ⟨q, 3, none⟩ = some (str r.data) := by rw [cell_row h]; rfl
theorem RcAt.keep {w w' : World} {q : Nat} {r : Rc} (h : RcAt w q r) (hx : Ext [] w w') : RcAt w' q r := hx.heap (by simp) h
theorem RcAt.new (w : World) (k i t : Int) (d : List UInt8) : RcAt (w.alloc (.cells #[.int .i64 k, .int .i64 i, .int .i64 t, .string ⟨d.toArray⟩] 40)) w.heap.size ⟨k, i, t, d⟩ := heap_alloc_new _ _

theorem Rd4 : putE ⟨1, 2, 3, [97, 98, 99]⟩ = 0 := by decide
set_option maxHeartbeats 1600000 in
theorem head4_any (w : World) : Calls Try.prog 26 #[] w fun e w' => e = .returned (.bool true) ∧ Ext [] w w' := by
  obtain ⟨r, hr⟩ : ∃ r : Rc, r = ⟨1, 2, 3, [97, 98, 99]⟩ := ⟨_, rfl⟩
  have hE : putE r = 0 := by rw [hr]; exact Rd4
  have cp : ∀ W, Calls Try.prog 27 #[.agg #[.int .i64 1, .int .i64 2, .int .i64 3, .string ⟨#[97, 98, 99]⟩]] W (PutPost r W) := by
    intro W
    have h := sput_any r W (by rw [hr]; simp [Rc.wf]; unfold maxLen; omega)
    have e : r.val = .agg #[.int .i64 1, .int .i64 2, .int .i64 3, .string ⟨#[97, 98, 99]⟩] := by rw [hr]; rfl
    rwa [e] at h
  have e : Hid (r.val = .agg #[.int .i64 1, .int .i64 2, .int .i64 3, .string ⟨#[97, 98, 99]⟩]) := by show _ = _; rw [hr]; rfl
  have HG := get_put hE
  have hl := putV_le r
  obtain ⟨v, hv⟩ : ∃ v, v = putV r := ⟨_, rfl⟩
  rw [← hv] at HG hl
  have HG2 : Hid (getS v = 1 ∧ getR v = r ∧ v = putV r) := ⟨HG.1, HG.2, hv⟩
  clear HG hr hv
  have hE2 : Hid (putE r = 0) := hE
  clear hE
  go_enter Try.func26, Try.ntmps26
  go_wp2_with fail
  obtain ⟨q, hq⟩ : ∃ q, q = w.heap.size := ⟨_, rfl⟩
  refine (cp _).mono ?_
  rintro e w1 ⟨rfl, hx⟩
  have hr1 : w1.heap[q]? = some (.cells #[.int .i64 1, .int .i64 2, .int .i64 3, .string ⟨#[97, 98, 99]⟩] 40 (0, 0)) := by subst hq; exact hx.heap (by simp) (heap_alloc_new _ _)
  have hxw : Ext [] w w1 := ((Ext.refl _ _).alloc _).then0 hx
  rw [hE2.out, ← HG2.out.2.2, ← hq]
  clear hx hq cp
  go_wp2_with fail
  refine (sget_any v w1 (by omega)).mono ?_
  rintro e2 w2 ⟨rfl, hx2⟩
  rw [HG2.out.1, HG2.out.2.1, e.out]
  have hr2 := hx2.heap (by simp) hr1
  have hxw2 := hxw.then0 hx2
  clear hxw hx2 hr1
  have cc0 : w2.cell? ⟨q, 0, none⟩ = some (.int .i64 1) := by rw [cell_row hr2]; rfl
  have cc1 : w2.cell? ⟨q, 1, none⟩ = some (.int .i64 2) := by rw [cell_row hr2]; rfl
  have cc2 : w2.cell? ⟨q, 2, none⟩ = some (.int .i64 3) := by rw [cell_row hr2]; rfl
  have cc3 : w2.cell? ⟨q, 3, none⟩ = some (.string ⟨#[97, 98, 99]⟩) := by rw [cell_row hr2]; rfl
  have hq2 : q < w2.heap.size := (Array.getElem?_eq_some_iff.1 hr2).1
  clear hr2
  go_wp2
  go_ret
  exact ⟨rfl, hxw2.alloc _⟩
end Go.Proofs.Ytpnfgkgloioddaa
