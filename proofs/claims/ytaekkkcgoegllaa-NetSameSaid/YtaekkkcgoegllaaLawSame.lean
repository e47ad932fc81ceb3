/- NetSame: the walk. -/
import Derived.Test.YtaekkkcgoegllaaNetk
import Derived.Test.YtaekkkcgoegllaaMsgs
namespace Go.Proofs.Ytaekkkcgoegllaa
open Go.RowKit
set_option linter.unusedVariables false
set_option linter.unusedSimpArgs false

theorem NetX.old {w0 w : World} {b : Nat} {now seq : Int} {A : List Lt} {O : List Nat} (h : NetX w0 w b now seq A O) (q : Nat) (hq : q < w0.heap.size) : NetX w0 w b now seq A (q :: O) := by
  obtain ⟨h1, h2, v, h3, h4, h5⟩ := h
  have := h1.size
  refine ⟨h1, h2, v, h3, h4, fun k hk => ?_⟩
  rcases List.mem_cons.1 hk with rfl | hk
  · exact ⟨by omega, by omega, fun hm => by have := h4 _ hm; omega⟩
  · exact h5 k hk
set_option maxRecDepth 100000 in
set_option maxHeartbeats 3200000 in
theorem nsend_none (b : Nat) (delay : Int) (a : Option Addr) (cap : Nat) (w : World) : Calls Try.prog 13 #[.pointer (some ⟨b, 0, none⟩), .int .i64 delay, .slice a 0 cap] w fun e w' => e = .returned (.tuple #[]) ∧ w = w' := by
  go_enter Try.func13, Try.ntmps13
  go_wp2
  go_loopw [12] (fun u12 wr => u12 = .int .i64 0 ∧ wr = w) (fun u12 _ => 0)
  case atStart => exact ⟨rfl, rfl⟩
  case round =>
    obtain ⟨rfl, rfl⟩ := hrel
    go_wp2
    go_end0
    exact ⟨rfl, rfl⟩
theorem lsq_drop (d : Int) (ms : List Ms) (k : Nat) (hk : k < ms.length) : lsq d (k : Int) (ms.drop k) = ⟨d, (k : Int) + 1, ms[k]⟩ :: lsq d ((k + 1 : Nat) : Int) (ms.drop (k + 1)) := by
  rw [List.drop_eq_getElem_cons hk, lsq, Int.natCast_add]; rfl
set_option maxRecDepth 100000 in
set_option maxHeartbeats 12800000 in
theorem same_any {w : World} (a : Option Addr) (len cap : Nat) (ms : List Ms) (hR : Rd w 17 (.slice a len cap) len (ms.flatMap Ms.cells)) (hwf : ∀ m ∈ ms, MsOk w m) :
    Calls Try.prog 5 #[.slice a len cap] w fun e w' => e = .returned (.bool true) ∧ Ext [] w w' := by
  have hl : ms.length = len := by have := hR.len; have h2 := msgs_len ms; unfold msgs at h2; rw [h2] at this; omega
  by_cases h20 : 20 < len
  · go_enter Try.func5, Try.ntmps5
    go_wp2_with ((go_at_call 12; (with_reducible refine (head_any _).mono ?_); rintro e w1 ⟨rfl, hx1⟩))
    go_ret
    exact ⟨rfl, hx1⟩
  · by_cases hz : len = 0
    · subst hz
      go_enter Try.func5, Try.ntmps5
      go_wp2_with (first
        | (go_at_call 12; (with_reducible refine (head_any _).mono ?_); rintro e w1 ⟨rfl, hx1⟩; have H0 := Hid.of (NetX.mk1 hx1 (Ext.refl _ _)); clear hx1)
        | (go_at_call 13; (with_reducible refine (nsend_none _ _ _ _ _).mono ?_); rintro e w2 ⟨rfl, rfl⟩))
      go_loopw [20] (fun u20 wr => u20 = .int .i64 0 ∧ wr = w1.alloc (.cells #[.slice none 0 0, .int .i64 0, .int .i64 0] 27)) (fun u20 _ => 0)
      case atStart => exact ⟨rfl, rfl⟩
      case round =>
        obtain ⟨rfl, rfl⟩ := hrel
        have cl := xlen H0.out
        go_wp2_with ((go_at_call 14; (with_reducible refine cl.mono ?_); rintro e w5 ⟨rfl, rfl⟩))
        go_ret
        exact ⟨rfl, H0.out.x⟩
    · obtain ⟨q, off, rfl, hqw, hc⟩ := hR.view (by omega)
      have hrg : ∀ wr, Ext [] w wr → ∀ k, (hk : k < ms.length) → wr.rangeAt q (off + k * 17) ms[k].cells := by
        intro wr hx k hk
        obtain ⟨q', o', he, _, hc⟩ := (hR.keep hx (by simp)).view (by omega)
        simp only [Option.some.injEq, Addr.mk.injEq, and_true] at he
        obtain ⟨rfl, rfl⟩ := he
        exact msgs_range hc k hk
      have hA := sendF_lsq (0 + min (max 0 0) 1048576) ms 0 []
      rw [List.nil_append, List.length_nil, List.take_of_length_le (by omega), show (0 : Int) + min (max 0 0) 1048576 = 0 from rfl] at hA
      have HA := Hid.of hA
      have HR := Hid.of hrg
      have HRd := Hid.of hR
      have HL := Hid.of hl
      clear hA hrg hR hc hl hwf
      go_enter Try.func5, Try.ntmps5
      go_wp2_with (first
        | (go_at_call 12; (with_reducible refine (head_any _).mono ?_); rintro e w1 ⟨rfl, hx1⟩; have h0 := (NetX.mk1 hx1 (Ext.refl _ _)).old q hqw; have cs := xsend h0 (by simp) 0 (by omega) (by omega) q off len cap ms (HRd.out.keep h0.x (by simp)) (by simp) (by have := HL.out; omega); clear hx1 h0)
        | (go_at_call 13; (with_reducible refine cs.mono ?_); rintro e w2 ⟨rfl, h2, -⟩; rw [show (0 : Int) + min (max 0 0) 1048576 = 0 from rfl, HA.out] at h2; generalize (sendF 0 ms 0 []).1 = sq at h2; have H2 := Hid.of h2; clear h2 cs))
      go_loopw [20] (fun u20 wr => ∃ (k : Nat) (s : Int), u20 = .int .i64 (k : Int) ∧ k ≤ len ∧ Hid (NetX w wr w1.heap.size 0 s (lsq 0 (k : Int) (ms.drop k)) [])) (fun u20 _ => len - (intOf u20).toNat)
      case atStart => exact ⟨0, sq, rfl, by omega, H2.out.mono (by simp)⟩
      case round =>
        obtain ⟨k, s, rfl, hk, hX⟩ := hrel
        by_cases hlt : k < len
        · have hkm : k < ms.length := by rw [HL.out]; exact hlt
          have hr := HR.out wr hX.out.x k hkm
          have hX1 := hX.out
          rw [lsq_drop 0 ms k hkm] at hX1
          obtain ⟨m, hm⟩ : ∃ m, m = ms[k] := ⟨_, rfl⟩
          rw [← hm] at hr hX1
          obtain ⟨W, hW⟩ : ∃ W, W = wr.alloc (.cells m.cells.toArray 36) := ⟨_, rfl⟩
          have hB : Blk W wr.heap.size 36 m.cells := by rw [hW]; exact Blk.new _ _ _
          have hX2 : NetX w W w1.heap.size 0 s (⟨0, (k : Int) + 1, m⟩ :: lsq 0 ((k + 1 : Nat) : Int) (ms.drop (k + 1))) [wr.heap.size] := by
            rw [hW]; exact hX1.add ((Ext.refl [] wr).alloc _) wr.heap.size (Nat.le_refl _) (by simp)
          have cn := xnext_yes hX2 (by rw [List.length_cons, lsq_length, List.length_drop]; have := HL.out; omega) ⟨0, (k : Int) + 1, m⟩ (by simp) (by show (0 : Int) ≤ 0; omega)
          have HRk := Hid.of hr
          have HW := Hid.of hW
          have HB := Hid.of hB
          clear hX1 hX2 hr hm hB
          go_wp2_with (first
            | (refine wpList_load_mid rfl 36 _ rfl q (off + k * 17) rfl m.cells _ HRk.out Try.underlying36 rfl (by rw [mcells_len]; kernel_rfl) ?_)
            | (refine wpList_new_row rfl rfl 36 _ _ _ rfl rfl rfl rfl _ al_msg m.cells (by rw [mcells_len]; rfl) (by rw [mcells_len]; kernel_rfl) (mcells_one m) rfl rfl ?_)
            | fail)
          rw [← HW.out]
          go_wp2_with (first
            | (go_at_call 15; (with_reducible refine cn.mono ?_); rintro e w5 ⟨x, A5, hp, hmn, hd, rfl, h5, f5⟩; obtain ⟨rfl, hp5⟩ := first_next hp hmn (fun y hy => by have := lsq_mem _ _ _ y hy; unfold ltL; rw [if_pos this.1.symm]; simp at this ⊢; omega); have H5 := Hid.of (((h5.perm hp5).mono (O' := []) (by simp)).ext0 ((Ext.refl [] w5).alloc (.cells m.cells.toArray 36))); have pB := (f5.blk HB.out (by simp)).alloc (.cells m.cells.toArray 36); have qB := Blk.new w5 36 m.cells.toArray; have p0 : (w5.alloc (.cells m.cells.toArray 36)).cell? ⟨wr.heap.size, 0, none⟩ = some (.int .i64 m.kind) := pB.c 0; have p1 : (w5.alloc (.cells m.cells.toArray 36)).cell? ⟨wr.heap.size, 1, none⟩ = some (.int .i64 m.frm) := pB.c 1; have p2 : (w5.alloc (.cells m.cells.toArray 36)).cell? ⟨wr.heap.size, 2, none⟩ = some (.int .i64 m.too) := pB.c 2; have p3 : (w5.alloc (.cells m.cells.toArray 36)).cell? ⟨wr.heap.size, 3, none⟩ = some (.int .i64 m.term) := pB.c 3; have p4 : (w5.alloc (.cells m.cells.toArray 36)).cell? ⟨wr.heap.size, 4, none⟩ = some (.int .i64 m.index) := pB.c 4; have p8 : (w5.alloc (.cells m.cells.toArray 36)).cell? ⟨wr.heap.size, 8, none⟩ = some (.slice m.ea m.en m.ec) := pB.c 8; have p16 : (w5.alloc (.cells m.cells.toArray 36)).cell? ⟨wr.heap.size, 16, none⟩ = some (str m.data) := pB.c 16; have q0 : (w5.alloc (.cells m.cells.toArray 36)).cell? ⟨w5.heap.size, 0, none⟩ = some (.int .i64 m.kind) := qB.c 0; have q1 : (w5.alloc (.cells m.cells.toArray 36)).cell? ⟨w5.heap.size, 1, none⟩ = some (.int .i64 m.frm) := qB.c 1; have q2 : (w5.alloc (.cells m.cells.toArray 36)).cell? ⟨w5.heap.size, 2, none⟩ = some (.int .i64 m.too) := qB.c 2; have q3 : (w5.alloc (.cells m.cells.toArray 36)).cell? ⟨w5.heap.size, 3, none⟩ = some (.int .i64 m.term) := qB.c 3; have q4 : (w5.alloc (.cells m.cells.toArray 36)).cell? ⟨w5.heap.size, 4, none⟩ = some (.int .i64 m.index) := qB.c 4; have q8 : (w5.alloc (.cells m.cells.toArray 36)).cell? ⟨w5.heap.size, 8, none⟩ = some (.slice m.ea m.en m.ec) := qB.c 8; have q16 : (w5.alloc (.cells m.cells.toArray 36)).cell? ⟨w5.heap.size, 16, none⟩ = some (str m.data) := qB.c 16; clear pB qB h5 f5 hp hmn hd hp5 cn)
            | (refine wpList_new_row rfl rfl 36 _ _ _ rfl rfl rfl rfl _ al_msg m.cells (by rw [mcells_len]; rfl) (by rw [mcells_len]; kernel_rfl) (mcells_one m) rfl rfl ?_))
          exact ⟨⟨k + 1, s, by congr 1, by omega, H5.out⟩, by simp [intOf]; omega⟩
        · obtain rfl : k = len := by omega
          have hX1 := hX.out
          rw [List.drop_eq_nil_of_le (by have := HL.out; omega), lsq] at hX1
          have cl := xlen hX1
          have hx := Hid.of hX1.x
          clear hX1
          go_wp2_with ((go_at_call 14; (with_reducible refine cl.mono ?_); rintro e w5 ⟨rfl, rfl⟩))
          go_ret
          exact ⟨rfl, hx.out⟩
end Go.Proofs.Ytaekkkcgoegllaa
