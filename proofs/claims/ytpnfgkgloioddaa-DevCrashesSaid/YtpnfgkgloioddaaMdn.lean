/- The model's New; a device and its model, beside each other. -/
import Derived.Test.YtpnfgkgloioddaaMdw0
import Derived.Test.YtpnfgkgloioddaaMdw1
import Derived.Test.YtpnfgkgloioddaaActs2
import Derived.BigRegion
import Derived.Deep.OwnRows
namespace Go.Proofs.Ytpnfgkgloioddaa
open Go.RowKit
set_option linter.unusedVariables false
set_option linter.unusedSimpArgs false
attribute [local go_sem high] run_max2 run_min2

theorem made_row (n : Nat) (v : Value) : (madeCells #[v] n).toList = row n (fun _ => v) := by
  apply List.ext_getElem?
  intro j
  simp only [madeCells, row, Array.toList_map, Array.toList_range, List.getElem?_map, List.getElem?_range]
  by_cases h : j < n
  · simp [h, Nat.mod_one]
  · simp [h]
theorem Blk.made {w : World} {t : TypeId} {v : Value} {n g : Nat} (hg : w.heap.size = g) : Blk (w.alloc (.cells (madeCells #[v] n) t)) g t (row n (fun _ => v)) := by
  have := Blk.newg (w := w) (t := t) (C := madeCells #[v] n) hg
  rwa [made_row] at this
theorem four_new (w : World) (o1 o2 o3 o4 : Obj) : (((((w.alloc o1).alloc o2).alloc o3).alloc o4).drew).heap[w.heap.size]? = some o1 ∧ (((((w.alloc o1).alloc o2).alloc o3).alloc o4).drew).heap[w.heap.size + 1]? = some o2 ∧
    (((((w.alloc o1).alloc o2).alloc o3).alloc o4).drew).heap[w.heap.size + 1 + 1]? = some o3 ∧ (((((w.alloc o1).alloc o2).alloc o3).alloc o4).drew).heap[w.heap.size + 1 + 1 + 1]? = some o4 := by
  have k : ∀ (w : World) (o : Obj), (w.alloc o).heap[w.heap.size]? = some o := fun w o => by show (w.heap.push o)[w.heap.size]? = some o; simp
  have z : ∀ (w : World) (o : Obj), (w.alloc o).heap.size = w.heap.size + 1 := fun w o => by simp
  have e1 := k w o1
  have e2 := k (w.alloc o1) o2
  have e3 := k ((w.alloc o1).alloc o2) o3
  have e4 := k (((w.alloc o1).alloc o2).alloc o3) o4
  rw [z] at e2
  rw [z, z] at e3
  rw [z, z, z] at e4
  have x : ∀ (w : World) (o : Obj), Ext [] w (w.alloc o) := fun w o => (Ext.refl _ _).alloc _
  have y : ∀ (w : World), Ext [] w w.drew := fun w => (Ext.refl _ _).drew
  exact ⟨(y _).heap (by simp) ((x _ _).heap (by simp) ((x _ _).heap (by simp) ((x _ _).heap (by simp) e1))), (y _).heap (by simp) ((x _ _).heap (by simp) ((x _ _).heap (by simp) e2)), (y _).heap (by simp) ((x _ _).heap (by simp) e3), (y _).heap (by simp) e4⟩
def MNewPost (n : Int) (w : World) (e : Ending) (w' : World) : Prop := ∃ m gs gg gh k, e = .returned (.pointer (some ⟨m, 0, none⟩)) ∧ MdIn w' m gs gg gh (.slice none 0 0) k (newD n) ∧ Ext [] w w' ∧ w.heap.size ≤ m ∧ w.heap.size ≤ gs ∧ w.heap.size ≤ gg ∧ w.heap.size ≤ gh
theorem mnew_fin {n : Int} {w W : World} {k m gs gg gh : Nat} (HS : (newD n).size = (k : Int)) (hx : Ext [] w W)
    (hb : W.heap[m]? = some (.cells #[.int .i64 (k : Int), .slice (some ⟨gs, 0, none⟩) k k, .slice none 0 0, .slice (some ⟨gg, 0, none⟩) k k, .slice (some ⟨gh, 0, none⟩) k k, .int .i64 (-1), .bool false] 111))
    (h1 : W.heap[gs]? = some (.cells (madeCells #[.string ⟨#[]⟩] k) 9)) (h2 : W.heap[gg]? = some (.cells (madeCells #[.bool false] k) 4)) (h3 : W.heap[gh]? = some (.cells (madeCells #[.bool false] k) 4))
    (d : gs ≠ m ∧ gg ≠ m ∧ gh ≠ m ∧ gs ≠ gg ∧ gs ≠ gh ∧ gg ≠ gh) (l : w.heap.size ≤ m ∧ w.heap.size ≤ gs ∧ w.heap.size ≤ gg ∧ w.heap.size ≤ gh) : MNewPost n w (.returned (.pointer (some ⟨m, 0, none⟩))) W := by
  have mk : ∀ (g : Nat) (t : TypeId) (v : Value), W.heap[g]? = some (.cells (madeCells #[v] k) t) → Blk W g t (row k fun _ => v) := by
    intro g t v h
    unfold Blk
    rw [h, ← made_row]
  exact ⟨m, gs, gg, gh, k, rfl, ⟨hb, HS, mk gs _ _ h1, mk gg _ _ h2, mk gh _ _ h3, Own.nil _ _ _, d.1, d.2.1, d.2.2.1, d.2.2.2.1, d.2.2.2.2.1, d.2.2.2.2.2, by simp [vblocks]⟩, hx, l⟩
set_option maxHeartbeats 6400000 in
theorem mnew_any (n : Int) (w : World) : Calls Try.prog 33 #[.int .i64 n] w (MNewPost n w) := by
  obtain ⟨k, hk⟩ : ∃ k : Nat, min (max n 0) 4096 = (k : Int) := ⟨(min (max n 0) 4096).toNat, by omega⟩
  have hk4 : k ≤ 4096 := by omega
  have HS : Hid ((newD n).size = (k : Int)) := hk
  have h1 := run_make_row' (P := Try.prog) 22 9 (.string ⟨#[]⟩) 16 Try.underlying22 (by kernel_rfl) rfl .i64 .i64 k (by omega) (by omega)
  have h2 := run_make_row' (P := Try.prog) 108 4 (.bool false) 1 Try.underlying108 (by kernel_rfl) rfl .i64 .i64 k (by omega) (by omega)
  go_enter Try.func33, Try.ntmps33
  go_wp2_with fail
  clear hk
  go_region
  all_goals (
    go_wp2
    go_ret
    have hx4 : ∀ o1 o2 o3 o4 : Obj, Ext [] w ((((w.alloc o1).alloc o2).alloc o3).alloc o4).drew := fun _ _ _ _ => (((((Ext.refl _ _).alloc _).alloc _).alloc _).alloc _).drew
    have f4 := four_new w
    clear h1 h2
    first
    | exact mnew_fin (m := w.heap.size + 1 + 1 + 1) (gs := w.heap.size) (gg := w.heap.size + 1) (gh := w.heap.size + 1 + 1) HS.out (hx4 _ _ _ _) (f4 _ _ _ _).2.2.2 (f4 _ _ _ _).1 (f4 _ _ _ _).2.1 (f4 _ _ _ _).2.2.1 ⟨by omega, by omega, by omega, by omega, by omega, by omega⟩ ⟨by omega, by omega, by omega, by omega⟩
    | exact mnew_fin (m := w.heap.size + 1 + 1 + 1) (gs := w.heap.size) (gg := w.heap.size + 1 + 1) (gh := w.heap.size + 1) HS.out (hx4 _ _ _ _) (f4 _ _ _ _).2.2.2 (f4 _ _ _ _).1 (f4 _ _ _ _).2.2.1 (f4 _ _ _ _).2.1 ⟨by omega, by omega, by omega, by omega, by omega, by omega⟩ ⟨by omega, by omega, by omega, by omega⟩
    | exact mnew_fin (m := w.heap.size + 1 + 1 + 1) (gs := w.heap.size + 1) (gg := w.heap.size) (gh := w.heap.size + 1 + 1) HS.out (hx4 _ _ _ _) (f4 _ _ _ _).2.2.2 (f4 _ _ _ _).2.1 (f4 _ _ _ _).1 (f4 _ _ _ _).2.2.1 ⟨by omega, by omega, by omega, by omega, by omega, by omega⟩ ⟨by omega, by omega, by omega, by omega⟩
    | exact mnew_fin (m := w.heap.size + 1 + 1 + 1) (gs := w.heap.size + 1) (gg := w.heap.size + 1 + 1) (gh := w.heap.size) HS.out (hx4 _ _ _ _) (f4 _ _ _ _).2.2.2 (f4 _ _ _ _).2.1 (f4 _ _ _ _).2.2.1 (f4 _ _ _ _).1 ⟨by omega, by omega, by omega, by omega, by omega, by omega⟩ ⟨by omega, by omega, by omega, by omega⟩
    | exact mnew_fin (m := w.heap.size + 1 + 1 + 1) (gs := w.heap.size + 1 + 1) (gg := w.heap.size) (gh := w.heap.size + 1) HS.out (hx4 _ _ _ _) (f4 _ _ _ _).2.2.2 (f4 _ _ _ _).2.2.1 (f4 _ _ _ _).1 (f4 _ _ _ _).2.1 ⟨by omega, by omega, by omega, by omega, by omega, by omega⟩ ⟨by omega, by omega, by omega, by omega⟩
    | exact mnew_fin (m := w.heap.size + 1 + 1 + 1) (gs := w.heap.size + 1 + 1) (gg := w.heap.size + 1) (gh := w.heap.size) HS.out (hx4 _ _ _ _) (f4 _ _ _ _).2.2.2 (f4 _ _ _ _).2.2.1 (f4 _ _ _ _).2.1 (f4 _ _ _ _).1 ⟨by omega, by omega, by omega, by omega, by omega, by omega⟩ ⟨by omega, by omega, by omega, by omega⟩)
end Go.Proofs.Ytpnfgkgloioddaa
