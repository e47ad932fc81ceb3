/- Law 14: reading an encoding; the document's example. -/
import Derived.Test.YtaekkkcgoegllaaMsgf
namespace Go.Proofs.Ytaekkkcgoegllaa
open Go.RowKit
set_option linter.unusedVariables false
set_option linter.unusedSimpArgs false

theorem mv_eq {m o : Ms} {es es' : List En} {ss ss' : List UInt32} (h : mv m es ss = mv o es' ss') : es = es' ∧ ss = ss' ∧ m.kind = o.kind := by
  unfold mv at h
  simp only [Prod.mk.injEq] at h
  exact ⟨h.2.2.1, h.2.2.2.2.2.2.1, h.1⟩
theorem right_of_mv {m o : Ms} {es : List En} {ss : List UInt32} (h : mv m es ss = mv o es ss) : RightM o es ss → RightM m es ss := by
  intro hR
  have h1 := (okV_mv o es ss).1 hR
  exact (okV_mv m es ss).2 ⟨by rw [h]; exact h1.1, by rw [(mv_eq h).2.2]; exact h1.2⟩
theorem msgR_enc {m : Ms} {es : List En} {ss : List UInt32} (h : RightM m es ss) : msgR (encM m es ss, false) = (mv m es ss, ([], false)) := by
  have := msgC.encs (mv m es ss) [] ((okV_mv m es ss).1 h).1
  rw [List.append_nil] at this
  exact this
theorem mread_enc (m : Ms) (es : List En) (ss : List UInt32) (h : RightM m es ss) (w : World) :
    Calls Try.prog 27 #[str (encM m es ss)] w fun e w' => Ext [] w w' ∧ ∃ x : Ms, e = .returned (.tuple #[.agg x.cells.toArray, .int .i64 0]) ∧ MsAt w' x es ss ∧ mv x es ss = mv m es ss ∧ RightM x es ss := by
  have hl : (encM m es ss).length ≤ 1000000 := Nat.le_trans (encV_length ((okV_mv m es ss).1 h).1) (by omega)
  refine (mread_any _ w hl).mono ?_
  rintro e w' ⟨hx, hh⟩
  rw [msgR_enc h] at hh
  refine ⟨hx, ?_⟩
  rcases hh with ⟨_, _, x, xe, xs, he, hat, hmv⟩ | ⟨hn, _⟩
  · obtain ⟨h1, h2, _⟩ := mv_eq hmv
    subst h1 h2
    exact ⟨x, he, hat, hmv, right_of_mv hmv h⟩
  · exact absurd ⟨rfl, h.1.1⟩ hn
theorem MsAt.en_len {w : World} {m : Ms} {es : List En} {ss : List UInt32} (h : MsAt w m es ss) : es.length = m.en := by
  have := h.ents.len; have e3 := flatMap_len En.cells 3 ecells_len es; rw [e3] at this; omega
theorem MsAt.sn_len {w : World} {m : Ms} {es : List En} {ss : List UInt32} (h : MsAt w m es ss) : ss.length = m.sn := by
  have := h.sums.len; simp [u32s] at this; omega
def hdM (B : Nat) : Ms := ⟨3, 1, 2, 3, 0, 0, 0, 0, some ⟨B, 0, none⟩, 1, 1, false, 0, 0, 0, 0, none, 0, 0, 0, []⟩
def hdE : List En := [⟨1, 3, [120]⟩]
theorem hd_right (B : Nat) : RightM (hdM B) hdE [] := by
  unfold RightM hdM hdE R48
  simp [En.right, R48]
theorem hd_at (w w' : World) (hx : Ext [] (w.alloc (.cells #[.int .i64 1, .int .i64 3, str [120]] 60)) w') : MsAt w' (hdM w.heap.size) hdE [] := by
  refine ⟨?_, by show 0 ≤ maxLen; unfold maxLen; omega, ?_, ?_, Rd.nil _ _⟩
  · unfold hdM I64; simp
  · exact (Rd.lit w #[.int .i64 1, .int .i64 3, str [120]] 60 3 1 rfl (by unfold maxLen; omega)).keep hx (by simp)
  · intro e he
    simp only [hdE, List.mem_cons, List.not_mem_nil, or_false] at he
    subst he
    exact ⟨by unfold I64; simp, by unfold I64; simp, by show 1 ≤ maxLen; unfold maxLen; omega⟩
set_option maxRecDepth 100000 in
set_option maxHeartbeats 6400000 in
theorem mhead_any (w : World) : Calls Try.prog 19 #[] w fun e w' => e = .returned (.bool true) ∧ Ext [] w w' := by
  obtain ⟨B, hB⟩ : ∃ B, B = w.heap.size := ⟨_, rfl⟩
  obtain ⟨W1, hW1⟩ : ∃ W, W = w.alloc (.cells #[.int .i64 1, .int .i64 3, .string ⟨#[120]⟩] 60) := ⟨_, rfl⟩
  obtain ⟨W, hW⟩ : ∃ W, W = W1.alloc (.cells (hdM B).cells.toArray 36) := ⟨_, rfl⟩
  obtain ⟨P, hP⟩ : ∃ P, P = W1.heap.size := ⟨_, rfl⟩
  have hx1 : Ext [] w W := by rw [hW, hW1]; exact ((Ext.refl _ _).alloc _).alloc _
  have hat : ∀ w', Ext [] W w' → MsAt w' (hdM B) hdE [] := fun w' hx => by
    rw [hB]
    refine hd_at w w' ?_
    rw [hW, hW1] at hx
    exact ((Ext.refl [] _).alloc _).then0 hx
  have hBk : Blk W P 36 (hdM B).cells := by rw [hW, hP]; exact Blk.new _ _ _
  have cb := bytes_any (hdM B) hdE [] W (hat W (Ext.refl _ _)) (by decide)
  rw [if_pos (hd_right B)] at cb
  obtain ⟨S, hS⟩ : ∃ S, S = encM (hdM B) hdE [] := ⟨_, rfl⟩
  have cr := mread_enc (hdM B) hdE [] (hd_right B)
  rw [← hS] at cb cr
  have HX1 := Hid.of hx1
  have HAt := Hid.of hat
  have HB := Hid.of hBk
  have HRow := Hid.of hBk.range
  have HBs := Hid.of hB
  have HW1 := Hid.of hW1
  have HW := Hid.of hW
  have HP := Hid.of hP
  clear hS hx1 hat hBk hB hW1 hW hP
  go_enter Try.func19, Try.ntmps19
  go_wp2_with (first
    | (rw [← HBs.out, ← HW1.out]; refine wpList_new_row rfl rfl 36 _ _ _ rfl rfl rfl rfl _ al_msg (hdM B).cells rfl (by kernel_rfl) (mcells_one _) rfl rfl ?_; rw [← HW.out, ← HP.out])
    | (go_at_call 21; (with_reducible refine cb.mono ?_); rintro e w2 ⟨rfl, hx2⟩; have HX2 := Hid.of hx2; clear hx2 cb)
    | (refine wpList_load_mid rfl 36 _ rfl P 0 rfl (hdM B).cells _ HRow.out Try.underlying36 rfl (by rw [mcells_len]; kernel_rfl) ?_)
    | (go_at_call 27; (with_reducible refine (cr _).mono ?_); rintro e w3 ⟨hx3, x, rfl, hxa, hxm, hxr⟩; have HX3 := Hid.of (HX2.out.then0 hx3); have HXA := Hid.of hxa; have HXM := Hid.of hxm; have HXR := Hid.of hxr; clear hx3 hxa hxm hxr cr)
    | (refine wpList_new_row rfl rfl 36 _ _ _ rfl rfl rfl rfl _ al_msg x.cells rfl (by kernel_rfl) (mcells_one _) rfl rfl ?_; have hb4 := Blk.new w3 36 x.cells.toArray; have HX4 := Hid.of (HX3.out.alloc (.cells x.cells.toArray 36)); have hxa4 := HXA.out.keep0 ((Ext.refl [] w3).alloc (.cells x.cells.toArray 36)); have HR4 := Hid.of hb4.range; have HB4 := Hid.of hb4; have HRP := Hid.of (HB.out.keep HX4.out (by simp)).range; have cs := same_m x (hdM B) hdE hdE [] [] _ hxa4 (HAt.out _ HX4.out) HXR.out (hd_right B); rw [sameB_true HXM.out] at cs; clear hb4 hxa4)
    | (refine wpList_load_row_g (by first | rfl | (simp [Region.wanted, yielded]; done)) 36 _ rfl w3.heap.size 0 rfl x.cells _ HR4.out Try.underlying36 rfl (by rw [mcells_len]; kernel_rfl) ?_)
    | (refine wpList_load_row_g (by first | rfl | (simp [Region.wanted, yielded]; done)) 36 _ rfl P 0 rfl (hdM B).cells _ HRP.out Try.underlying36 rfl (by rw [mcells_len]; kernel_rfl) ?_)
    | (go_at_call 28; (with_reducible refine cs.mono ?_); rintro e w5 ⟨rfl, hx5⟩; have HX5 := Hid.of (HX4.out.then0 hx5); have c8 : w5.cell? ⟨w3.heap.size, 8, none⟩ = some (.slice x.ea x.en x.ec) := (HB4.out.keep hx5 (by simp)).c 8; have e1 : x.en = 1 := HXA.out.en_len.symm; rw [e1] at c8; clear hx5 cs))
  go_ret
  exact ⟨rfl, HX1.out.then0 HX5.out⟩
end Go.Proofs.Ytaekkkcgoegllaa
