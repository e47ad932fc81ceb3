/- Law 14, MsgReads. -/
import Derived.Test.YtaekkkcgoegllaaMsgh
namespace Go.Proofs.Ytaekkkcgoegllaa
open Go.RowKit
set_option linter.unusedVariables false
set_option linter.unusedSimpArgs false

theorem mread_all (s : List UInt8) (w : World) (hs : s.length ≤ 1000000) :
    Calls Try.prog 27 #[str s] w fun e w' => Ext [] w w' ∧
      ((∃ m es ss, RightM m es ss ∧ s = encM m es ss ∧ e = .returned (.tuple #[.agg m.cells.toArray, .int .i64 0]) ∧ MsAt w' m es ss) ∨
       ((∀ m es ss, RightM m es ss → s ≠ encM m es ss) ∧ e = .returned (.tuple #[.agg Ms.zero.cells.toArray, .int .i64 2]))) := by
  refine (mread_any s w hs).mono ?_
  rintro e w' ⟨hx, hh⟩
  refine ⟨hx, ?_⟩
  rcases hh with ⟨hd, hk, m, es, ss, he, hat, hmv⟩ | ⟨hn, he⟩
  · obtain ⟨h1, h2⟩ := (msgC.all s).1 hd
    rw [← hmv] at h1 h2 hk
    exact .inl ⟨m, es, ss, (okV_mv m es ss).2 ⟨h2, hk⟩, h1, he, hat⟩
  · refine .inr ⟨fun m es ss hR hse => hn ?_, he⟩
    subst hse
    rw [msgR_enc hR]
    exact ⟨rfl, hR.1.1⟩
theorem few_of_right {m : Ms} {es : List En} {ss : List UInt32} (h : RightM m es ss) : es.length ≤ 1000 := by have := h.2.2.2.1; omega
set_option maxRecDepth 100000 in
set_option maxHeartbeats 6400000 in
theorem mreads_any (s : List UInt8) (hsm : s.length ≤ maxLen) (w : World) : Calls Try.prog 8 #[str s] w fun e w' => e = .returned (.bool true) ∧ Ext [] w w' := by
  have ch := mhead_any w
  go_enter Try.func8, Try.ntmps8
  unfold maxLen at hsm
  by_cases hs : 1500 < s.length
  · go_wp2_with (go_at_call 19; (with_reducible refine ch.mono ?_); rintro e w1 ⟨rfl, hx1⟩; have HX1 := Hid.of hx1; clear hx1 ch)
    go_ret
    exact ⟨rfl, HX1.out⟩
  · have cr := fun w => mread_all s w (by omega)
    go_wp2_with (go_at_call 19; (with_reducible refine ch.mono ?_); rintro e w1 ⟨rfl, hx1⟩; have HX1 := Hid.of hx1; clear hx1 ch)
    refine (cr _).mono ?_
    rintro e w2 ⟨hx2, ⟨m, es, ss, hr, hse, rfl, hat⟩ | ⟨_, rfl⟩⟩
    · have HX3 := Hid.of ((HX1.out.then0 hx2).alloc (.cells m.cells.toArray 36))
      have hat3 := hat.keep0 ((Ext.refl [] w2).alloc (.cells m.cells.toArray 36))
      have hb3 := Blk.new w2 36 m.cells.toArray
      have HR3 := Hid.of hb3.range
      have HB3 := Hid.of hb3
      have cb := bytes_any m es ss _ hat3 (few_of_right hr)
      rw [if_pos hr, ← hse] at cb
      have HA3 := Hid.of hat3
      have HR := Hid.of hr
      have cl := fun w' (hx : Ext [] (w2.alloc (.cells m.cells.toArray 36)) w') => lright_any m es ss w' (HA3.out.keep0 hx)
      rw [decide_eq_true hr] at cl
      clear hx2 hr hse hat hat3 hb3 cr
      go_wp2_with (first
        | (refine wpList_new_row rfl rfl 36 _ _ _ rfl rfl rfl rfl _ al_msg m.cells rfl (by kernel_rfl) (mcells_one _) rfl rfl ?_)
        | (refine wpList_load_mid rfl 36 _ rfl w2.heap.size 0 rfl m.cells _ HR3.out Try.underlying36 rfl (by rw [mcells_len]; kernel_rfl) ?_)
        | (go_at_call 21; (with_reducible refine cb.mono ?_); rintro e w4 ⟨rfl, hx4⟩; have HR4 := Hid.of (HB3.out.keep hx4 (by simp)).range; have cl4 := cl w4 hx4; have HX4 := Hid.of (HX3.out.then0 hx4); clear hx4 cb cl)
        | (refine wpList_load_row_g (by first | rfl | (simp [Region.wanted, yielded]; done)) 36 _ rfl w2.heap.size 0 rfl m.cells _ HR4.out Try.underlying36 rfl (by rw [mcells_len]; kernel_rfl) ?_)
        | (go_at_call 23; (with_reducible refine cl4.mono ?_); rintro e w5 ⟨rfl, hx5⟩; have HX5 := Hid.of (HX4.out.then0 hx5); clear hx5 cl4))
      go_ret
      exact ⟨rfl, HX5.out⟩
    · have HX3 := Hid.of ((HX1.out.then0 hx2).alloc (.cells Ms.zero.cells.toArray 36))
      have hb3 := Blk.new w2 36 Ms.zero.cells.toArray
      have c0 : (w2.alloc (.cells Ms.zero.cells.toArray 36)).cell? ⟨w2.heap.size, 0, none⟩ = some (.int .i64 0) := hb3.c 0
      clear hx2 cr hb3
      go_wp2_with (first
        | (refine wpList_new_row rfl rfl 36 _ _ _ rfl rfl rfl rfl _ al_msg Ms.zero.cells rfl (by kernel_rfl) (mcells_one _) rfl rfl ?_))
      go_ret
      exact ⟨rfl, HX3.out⟩
end Go.Proofs.Ytaekkkcgoegllaa
