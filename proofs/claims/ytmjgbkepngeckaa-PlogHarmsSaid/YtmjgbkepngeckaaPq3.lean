/- Package plog: what is refused; a log, and a device, of the call's own. Package plog: contracts of a log of the call's own, its memory hidden. -/
import Derived.Test.YtmjgbkepngeckaaPq2
namespace Go.Proofs.Ytmjgbkepngeckaa
open Go.RowKit
set_option linter.unusedVariables false
set_option linter.unusedSimpArgs false

set_option maxHeartbeats 3200000 in
theorem open_err {w0 w : World} {b : Nat} {n : Int} {V : Int → Sl} {O : List Nat} (h : DevX w0 w b n V O) (base size first : Int)
    (hb : base < 0 ∨ (0 ≤ base ∧ size < 1) ∨ (0 ≤ base ∧ 1 ≤ size ∧ first < 1) ∨ (0 ≤ base ∧ base ≤ n ∧ 1 ≤ size ∧ 1 ≤ first ∧ n < base + 2 * size)) (h2 : -9223372036854775808 ≤ base) (h3 : base ≤ 9223372036854775807) :
    Calls Try.prog 20 #[.pointer (some ⟨b, 0, none⟩), .int .i64 base, .int .i64 size, .int .i64 first] w fun e w' => e = .returned (.tuple #[.pointer none, .int .i64 1]) ∧ Ext [] w w' := by
  obtain ⟨D, hd, hf⟩ := h
  have hn := hf.big
  have cz := size_n b D w0 w hd.n
  rw [hf.size] at cz
  rcases hb with h1 | ⟨h0, h1⟩ | ⟨h0, h00, h1⟩ | ⟨h0, h00, h000, h0000, h1⟩
  · go_enter Try.func20, Try.ntmps20
    go_wp2
    go_ret2
    exact ⟨rfl, Ext.refl _ _⟩
  · go_enter Try.func20, Try.ntmps20
    go_wp2
    go_ret2
    exact ⟨rfl, Ext.refl _ _⟩
  · go_enter Try.func20, Try.ntmps20
    go_wp2
    go_ret2
    exact ⟨rfl, Ext.refl _ _⟩
  · have e1 : (n - base).tdiv 2 < size := by rw [Int.tdiv_eq_ediv_of_nonneg (by omega)]; omega
    go_enter Try.func20, Try.ntmps20
    go_wp2_with (first
      | (go_at_call 41; (with_reducible refine cz.mono ?_); rintro e w1 ⟨rfl, rfl⟩))
    go_ret2
    exact ⟨rfl, Ext.refl _ _⟩
theorem cut_nil (i : Int) (w : World) : Calls Try.prog 30 #[.pointer none, .int .i64 i] w fun e w' => e = .returned (.int .i64 1) ∧ Ext [] w w' := by
  go_enter Try.func30, Try.ntmps30
  go_wp2
  go_ret
  exact ⟨rfl, Ext.refl _ _⟩
theorem drop_nil (i : Int) (w : World) : Calls Try.prog 27 #[.pointer none, .int .i64 i] w fun e w' => e = .returned (.int .i64 1) ∧ Ext [] w w' := by
  go_enter Try.func27, Try.ntmps27
  go_wp2
  go_ret
  exact ⟨rfl, Ext.refl _ _⟩
theorem cut_err {w0 w : World} {q b mb : Nat} {tv : Value} {D : Dv} {L : Lg} {n : Int} {O : List Nat} (h : LgM w0 w q b mb tv D L n O) (i : Int) (hi : i < L.first ∨ L.last + 1 < i) :
    Calls Try.prog 30 #[.pointer (some ⟨q, 0, none⟩), .int .i64 i] w fun e w' => e = .returned (.int .i64 1) ∧ Ext [] w w' := by
  have cl := last_o w h.blk h.ok h.tv_slice
  obtain ⟨-, -, -, c3, -, -⟩ := h.blk.cells
  have g1 := h.ok.first
  have g2 := h.ok.firstb
  have g3 := h.ok.len
  have g4 := h.ok.fit
  have g5 := h.ok.base
  have g6 := h.ok.big
  have g7 : L.last = L.first + L.terms.length - 1 := rfl
  have hM1 : 0 ≤ L.last ∧ L.last ≤ 2000000000 := by omega
  obtain ⟨M, hM⟩ : ∃ M, M = L.last := ⟨_, rfl⟩
  rw [← hM] at cl hi hM1
  obtain ⟨hM0, hM1⟩ := hM1
  clear hM g7 h
  go_enter Try.func30, Try.ntmps30
  by_cases h1 : i < L.first
  · clear hi cl
    go_wp2
    go_ret
    exact ⟨rfl, Ext.refl _ _⟩
  · have h2 : M + 1 < i := hi.resolve_left h1
    clear hi
    go_wp2_with (first
      | (go_at_call 21; (with_reducible refine cl.mono ?_); intro e w2 hq; obtain ⟨rfl, hx2⟩ := QRet.ext hq; have HX1 := Hid.of hx2; clear hq hx2))
    go_ret
    exact ⟨rfl, HX1.out⟩
theorem drop_err {w0 w : World} {q b mb : Nat} {tv : Value} {D : Dv} {L : Lg} {n : Int} {O : List Nat} (h : LgM w0 w q b mb tv D L n O) (i : Int) (hi : i < L.first ∨ L.last + 1 < i) :
    Calls Try.prog 27 #[.pointer (some ⟨q, 0, none⟩), .int .i64 i] w fun e w' => e = .returned (.int .i64 1) ∧ Ext [] w w' := by
  have cl := last_o w h.blk h.ok h.tv_slice
  obtain ⟨-, -, -, c3, -, -⟩ := h.blk.cells
  have g1 := h.ok.first
  have g2 := h.ok.firstb
  have g3 := h.ok.len
  have g4 := h.ok.fit
  have g5 := h.ok.base
  have g6 := h.ok.big
  have g7 : L.last = L.first + L.terms.length - 1 := rfl
  have hM1 : 0 ≤ L.last ∧ L.last ≤ 2000000000 := by omega
  obtain ⟨M, hM⟩ : ∃ M, M = L.last := ⟨_, rfl⟩
  rw [← hM] at cl hi hM1
  obtain ⟨hM0, hM1⟩ := hM1
  clear hM g7 h
  go_enter Try.func27, Try.ntmps27
  by_cases h1 : i < L.first
  · clear hi cl
    go_wp2
    go_ret
    exact ⟨rfl, Ext.refl _ _⟩
  · have h2 : M + 1 < i := hi.resolve_left h1
    clear hi
    go_wp2_with (first
      | (go_at_call 21; (with_reducible refine cl.mono ?_); intro e w2 hq; obtain ⟨rfl, hx2⟩ := QRet.ext hq; have HX1 := Hid.of hx2; clear hq hx2))
    go_ret
    exact ⟨rfl, HX1.out⟩
theorem cut_end {w0 w : World} {q b mb : Nat} {tv : Value} {D : Dv} {L : Lg} {n : Int} {O : List Nat} (h : LgM w0 w q b mb tv D L n O) :
    Calls Try.prog 30 #[.pointer (some ⟨q, 0, none⟩), .int .i64 (L.last + 1)] w fun e w' => e = .returned (.int .i64 0) ∧ Ext [] w w' := by
  have cl := fun w' (hx : Ext [] w w') => last_o w' (h.keep hx).blk h.ok h.tv_slice
  obtain ⟨-, -, -, c3, -, -⟩ := h.blk.cells
  have g1 := h.ok.first
  have g2 := h.ok.firstb
  have g3 := h.ok.len
  have g4 := h.ok.fit
  have g5 := h.ok.base
  have g6 := h.ok.big
  have g7 : L.last = L.first + L.terms.length - 1 := rfl
  have hM1 : 0 ≤ L.last ∧ L.last ≤ 2000000000 ∧ L.first ≤ L.last + 1 := by omega
  obtain ⟨M, hM⟩ : ∃ M, M = L.last := ⟨_, rfl⟩
  rw [← hM] at cl hM1 ⊢
  obtain ⟨hM0, hM1, hM2⟩ := hM1
  have h1 : ¬ M + 1 < L.first := by omega
  clear hM g7 h
  go_enter Try.func30, Try.ntmps30
  go_wp2_with (first
    | (go_at_call 21; (with_reducible refine (cl _ ?hx).mono ?_); (case hx => first | exact Ext.refl _ _ | exact HX1.out); intro e w2 hq; obtain ⟨rfl, hx2⟩ := QRet.ext hq; have HX1 := Hid.of (by first | exact HX1.out.then0 hx2 | exact hx2); clear hq hx2))
  go_ret
  exact ⟨rfl, HX1.out⟩
/-- An entry behind the last one is not mended. -/
theorem mend_arg {w0 w : World} {q b mb : Nat} {tv : Value} {D : Dv} {L : Lg} {n : Int} {O : List Nat} (h : LgM w0 w q b mb tv D L n O) (x : Ent) (hx : L.last < x.idx) (hx2 : x.idx ≤ 9223372036854775807) :
    Calls Try.prog 22 #[.pointer (some ⟨q, 0, none⟩), x.val] w fun e w' => e = .returned (.int .i64 1) ∧ Ext [] w w' := by
  have ct := fun w' (hx : Ext [] w w') => term_o w' (h.keep hx).blk h.ok (h.keep hx).terms x.idx
  have cl := fun w' (hx : Ext [] w w') => last_o w' (h.keep hx).blk h.ok h.tv_slice
  have HC := Hid.of (fun w' (hx : Ext [] w w') => (h.keep hx).blk.cells.2.2.2.1)
  have g1 := h.ok.first
  have g7 : L.last = L.first + L.terms.length - 1 := rfl
  have hb : ¬ x.idx < L.first := by omega
  obtain ⟨M, hM⟩ : ∃ M, M = L.last := ⟨_, rfl⟩
  rw [← hM] at cl hx
  obtain ⟨t, ht⟩ : ∃ t, t = L.term x.idx := ⟨_, rfl⟩
  rw [← ht] at ct
  obtain ⟨xi, xt, xd⟩ := x
  simp only [Ent.val] at ct hx hx2 hb ⊢
  have b1' : decide (xi < L.first) = false := decide_eq_false hb
  have b2' : decide (M < xi) = true := decide_eq_true hx
  clear hM ht g7 h
  go_enter Try.func22, Try.ntmps22
  obtain ⟨E, hE⟩ : ∃ E, E = w.heap.size := ⟨_, rfl⟩
  obtain ⟨W, hW⟩ : ∃ W, W = w.alloc (.cells #[.int .i64 xi, .int .i64 xt, .string ⟨xd.toArray⟩] 37) := ⟨_, rfl⟩
  have HEW : Hid (Blk W E 37 [.int .i64 xi, .int .i64 xt, str xd]) := Hid.of (by rw [hE, hW]; exact Blk.new w 37 #[.int .i64 xi, .int .i64 xt, str xd])
  have HXW : Hid (Ext [] w W) := Hid.of (by rw [hW]; exact (Ext.refl _ _).alloc _)
  go_upto_region 1 with fail
  rw [← hE, ← hW]
  clear hE hW
  have e0 : W.cell? ⟨E, 0, none⟩ = some (.int .i64 xi) := Blk.c HEW.out 0
  go_upto_region 2 with (first
    | (go_at_call 33; (with_reducible refine (ct _ HXW.out).mono ?_); intro e w2 hq; obtain ⟨rfl, hx2⟩ := QRet.ext hq; have HX2 := Hid.of (HXW.out.then0 hx2); have HE2 := Hid.of (Blk.keep HEW.out hx2 (by simp)); clear hq hx2 ct))
  clear e0
  have e0 : w2.cell? ⟨E, 0, none⟩ = some (.int .i64 xi) := Blk.c HE2.out 0
  have d3 := HC.out w2 HX2.out
  have cl2 := fun j => cl (w2.drewN j) (HX2.out.drewN j)
  clear cl
  go_quiet ((go_at_call 21; refine Calls.quiet_of (cl2 _)))
  go_wp2
  go_ret
  exact ⟨rfl, HX2.out.drewN nq⟩
/-- An entry of another term is not mended. -/
theorem mend_gap {w0 w : World} {q b mb : Nat} {tv : Value} {D : Dv} {L : Lg} {n : Int} {O : List Nat} (h : LgM w0 w q b mb tv D L n O) (x : Ent) (h1 : L.first ≤ x.idx) (h2 : x.idx ≤ L.last) (h3 : 1 ≤ x.term) (h4 : x.term ≤ 1099511627776) (h5 : x.data.length ≤ 488)
    (ht : 0 < L.term x.idx) (ht2 : L.term x.idx ≠ x.term) :
    Calls Try.prog 22 #[.pointer (some ⟨q, 0, none⟩), x.val] w fun e w' => e = .returned (.int .i64 8) ∧ Ext [] w w' := by
  have ct := fun w' (hx : Ext [] w w') => term_o w' (h.keep hx).blk h.ok (h.keep hx).terms x.idx
  have cl := fun w' (hx : Ext [] w w') => last_o w' (h.keep hx).blk h.ok h.tv_slice
  have HC := Hid.of (fun w' (hx : Ext [] w w') => (h.keep hx).blk.cells.2.2.2.1)
  obtain ⟨M, hM⟩ : ∃ M, M = L.last := ⟨_, rfl⟩
  rw [← hM] at cl h2
  obtain ⟨t, ht'⟩ : ∃ t, t = L.term x.idx := ⟨_, rfl⟩
  rw [← ht'] at ct ht ht2
  obtain ⟨xi, xt, xd⟩ := x
  simp only [Ent.val] at ct h1 h2 h3 h4 h5 ht ht2 ⊢
  have b1' : decide (xi < L.first) = false := decide_eq_false (by omega)
  have b2' : decide (M < xi) = false := decide_eq_false (by omega)
  have b3' : decide (xt < 1) = false := decide_eq_false (by omega)
  have b4' : decide (1099511627776 < xt) = false := decide_eq_false (by omega)
  have b5' : decide (488 < (xd.length : Int)) = false := decide_eq_false (by omega)
  clear hM ht' h
  go_enter Try.func22, Try.ntmps22
  obtain ⟨E, hE⟩ : ∃ E, E = w.heap.size := ⟨_, rfl⟩
  obtain ⟨W, hW⟩ : ∃ W, W = w.alloc (.cells #[.int .i64 xi, .int .i64 xt, .string ⟨xd.toArray⟩] 37) := ⟨_, rfl⟩
  have HEW : Hid (Blk W E 37 [.int .i64 xi, .int .i64 xt, str xd]) := Hid.of (by rw [hE, hW]; exact Blk.new w 37 #[.int .i64 xi, .int .i64 xt, str xd])
  have HXW : Hid (Ext [] w W) := Hid.of (by rw [hW]; exact (Ext.refl _ _).alloc _)
  go_upto_region 1 with fail
  rw [← hE, ← hW]
  clear hE hW
  have e0 : W.cell? ⟨E, 0, none⟩ = some (.int .i64 xi) := Blk.c HEW.out 0
  go_upto_region 2 with (first
    | (go_at_call 33; (with_reducible refine (ct _ HXW.out).mono ?_); intro e w2 hq; obtain ⟨rfl, hx2⟩ := QRet.ext hq; have HX2 := Hid.of (HXW.out.then0 hx2); have HE2 := Hid.of (Blk.keep HEW.out hx2 (by simp)); clear hq hx2 ct))
  clear e0
  have e0 : w2.cell? ⟨E, 0, none⟩ = some (.int .i64 xi) := Blk.c HE2.out 0
  have e1 : w2.cell? ⟨E, 1, none⟩ = some (.int .i64 xt) := Blk.c HE2.out 1
  have e2 : w2.cell? ⟨E, 2, none⟩ = some (.string ⟨xd.toArray⟩) := Blk.c HE2.out 2
  have d3 := HC.out w2 HX2.out
  have cl2 := fun j => cl (w2.drewN j) (HX2.out.drewN j)
  clear cl
  go_quiet ((go_at_call 21; refine Calls.quiet_of (cl2 _)))
  have t2b : (t == xt) = false := by simp [ht2]
  go_wp2
  go_ret
  exact ⟨rfl, HX2.out.drewN nq⟩
end Go.Proofs.Ytmjgbkepngeckaa
namespace Go.Proofs.Ytmjgbkepngeckaa
open Go.RowKit
set_option linter.unusedVariables false
set_option linter.unusedSimpArgs false

section
variable {w0 w : World} {q b : Nat} {L : Lg} {n : Int} {V : Int → Sl} {O : List Nat}
theorem LgX.keep {w' : World} (h : LgX w0 w q b L n V O) (hx : Ext [] w w') : LgX w0 w' q b L n V O := by
  obtain ⟨mb, tv, D, h⟩ := h
  exact ⟨mb, tv, D, h.keep hx⟩
theorem LgX.sub {O' : List Nat} (h : LgX w0 w q b L n V O) (hs : ∀ z ∈ O', z ∈ O) : LgX w0 w q b L n V O' := by
  obtain ⟨mb, tv, D, h⟩ := h
  exact ⟨mb, tv, D, h.sub hs⟩
theorem LgX.add {w' : World} (h : LgX w0 w q b L n V O) (hx : Ext [] w w') (z : Nat) (h1 : w.heap.size ≤ z) (h2 : z < w'.heap.size) : LgX w0 w' q b L n V (z :: O) := by
  obtain ⟨mb, tv, D, h⟩ := h
  exact ⟨mb, tv, D, h.add hx z h1 h2⟩
theorem LgX.ext (h : LgX w0 w q b L n V O) : Ext [] w0 w := by
  obtain ⟨mb, tv, D, h⟩ := h
  exact h.dev.ext
theorem LgX.lt (h : LgX w0 w q b L n V O) : ∀ z ∈ O, z < w.heap.size := by
  obtain ⟨mb, tv, D, h⟩ := h
  exact fun z hz => h.dev.lt z (by simp [hz])
theorem LgX.ok (h : LgX w0 w q b L n V O) : LgOk L n := by
  obtain ⟨mb, tv, D, h⟩ := h
  exact h.ok
theorem LgX.dev (h : LgX w0 w q b L n V O) : DevX w0 w b n V O := by
  obtain ⟨mb, tv, D, h⟩ := h
  exact ⟨D, h.toLgM.dev.sub (fun z hz => by simp [hz]), h.fine⟩
theorem DevX.keep {w' : World} (h : DevX w0 w b n V O) (hx : Ext [] w w') : DevX w0 w' b n V O := by
  obtain ⟨D, h1, h2⟩ := h
  exact ⟨D, h1.keep hx, h2⟩
theorem DevX.sub {O' : List Nat} (h : DevX w0 w b n V O) (hs : ∀ z ∈ O', z ∈ O) : DevX w0 w b n V O' := by
  obtain ⟨D, h1, h2⟩ := h
  exact ⟨D, h1.sub hs, h2⟩
theorem DevX.ext (h : DevX w0 w b n V O) : Ext [] w0 w := by
  obtain ⟨D, h1, h2⟩ := h
  exact h1.ext
theorem DevX.lt (h : DevX w0 w b n V O) : ∀ z ∈ O, z < w.heap.size := by
  obtain ⟨D, h1, h2⟩ := h
  exact h1.lt
theorem DevX.add {w' : World} (h : DevX w0 w b n V O) (hx : Ext [] w w') (z : Nat) (h1 : w.heap.size ≤ z) (h2 : z < w'.heap.size) : DevX w0 w' b n V (z :: O) := by
  obtain ⟨D, h3, h4⟩ := h
  exact ⟨D, h3.add hx z h1 h2, h4⟩
/-- A block beside the log turned. -/
theorem LgX.other {w' : World} (h : LgX w0 w q b L n V O) {z : Nat} (hx : Ext [z] w w') (hz : z ∈ O) (h1 : w0.heap.size ≤ z) : LgX w0 w' q b L n V O := by
  obtain ⟨mb, tv, D, h⟩ := h
  obtain ⟨g1, g2, g3⟩ := h.out z hz
  exact ⟨mb, tv, D, ⟨Blk.keep h.blk hx (by simpa using fun e => g1 e.symm), h.terms.keep hx (fun k hk hm => by simp at hm; subst hm; exact g3 hk), h.hurt.keep hx (by simpa using fun e => g2 e.symm), h.dev.other hx (by simp [hz]) h1, h.ok, h.ne, h.neq, h.nem, h.out, h.newq, h.newm, h.newt⟩, h.fine⟩
theorem DevX.other {w' : World} (h : DevX w0 w b n V O) {z : Nat} (hx : Ext [z] w w') (hz : z ∈ O) (h1 : w0.heap.size ≤ z) : DevX w0 w' b n V O := by
  obtain ⟨D, h3, h4⟩ := h
  exact ⟨D, h3.other hx hz h1, h4⟩
def NewX (w0 w : World) (n : Int) (V : Int → Sl) (O : List Nat) (e : Ending) (w' : World) : Prop := ∃ b, e = .returned (.pointer (some ⟨b, 0, none⟩)) ∧ DevX w0 w' b n V O ∧ Ext [] w w'
theorem new_x (w0 w : World) (hx : Ext [] w0 w) (n : Int) (h0 : 0 ≤ n) (h1 : n ≤ 4096) (O : List Nat) (hO : ∀ z ∈ O, z < w.heap.size) :
    Calls Try.prog 34 #[.int .i64 n] w (NewX w0 w n (fun _ => (0, Rc.zero)) O) :=
  (new_any n w).mono fun e w' ⟨he, hi, hx2, hsz⟩ => ⟨_, he, ⟨_, ⟨⟨_, hi.at, fun k hk => by
    have := hx.size
    simp only [List.mem_cons, vblocks, List.not_mem_nil, or_false] at hk
    rcases hk with rfl | rfl | rfl | rfl <;> omega, fun z hz => ⟨fun hk => by
      have := hO z hz
      simp only [List.mem_cons, vblocks, List.not_mem_nil, or_false] at hk
      rcases hk with rfl | rfl | rfl | rfl <;> omega, by have := hO z hz; omega⟩⟩, hx.then0 hx2, DvOk.new n⟩, Fine.new n h0 h1⟩, hx2⟩
theorem crash_x (h : DevX w0 w b n V O) (h0 : 0 ≤ n) (a : Option Addr) (len cap : Nat) (fs : List Int) (hR : Rd w 1 (.slice a len cap) len (fs.map (Value.int .i64))) (O' : List Nat) (hO : ∀ z ∈ O', z < w.heap.size) :
    Calls Try.prog 24 #[.pointer (some ⟨b, 0, none⟩), .slice a len cap] w (NewX w0 w n V O') := by
  obtain ⟨D, ⟨⟨F, hF, hl, _⟩, hx, hok⟩, hf⟩ := h
  refine (crash_any b F D a len cap fs w hF hok hR).mono fun e w' ⟨b', F', he, hd, hl', hx2⟩ => ⟨b', he, ⟨crashD fs D, ⟨⟨F', hd, fun k hk => ?_, fun z hz => ⟨fun hk => ?_, ?_⟩⟩, hx.then0 hx2, hok.crash fs⟩, hf.crash h0 fs⟩, hx2⟩
  · have := hx.size
    have := hl' k hk
    omega
  · have := hl' z hk
    have := hO z hz
    omega
  · have := hO z hz
    have := hx2.size
    omega
theorem LgX.first (h : LgX w0 w q b L n V O) : Calls Try.prog 29 #[.pointer (some ⟨q, 0, none⟩)] w fun e w' => e = .returned (.int .i64 L.first) ∧ Ext [] w w' := by
  obtain ⟨mb, tv, D, h⟩ := h
  exact (first_o w h.blk).mono fun e w' ⟨he, hw⟩ => ⟨he, by rw [hw]; exact Ext.refl _ _⟩
theorem LgX.last_c (h : LgX w0 w q b L n V O) : Calls Try.prog 21 #[.pointer (some ⟨q, 0, none⟩)] w fun e w' => e = .returned (.int .i64 L.last) ∧ Ext [] w w' := by
  obtain ⟨mb, tv, D, h⟩ := h
  exact (last_o w h.blk h.ok h.tv_slice).mono fun e w' hq => QRet.ext hq
theorem LgX.room (h : LgX w0 w q b L n V O) : Calls Try.prog 32 #[.pointer (some ⟨q, 0, none⟩)] w fun e w' => e = .returned (.int .i64 (L.size - (L.terms.length : Int))) ∧ Ext [] w w' := by
  obtain ⟨mb, tv, D, h⟩ := h
  exact (room_o w h.blk h.ok h.tv_slice).mono fun e w' hq => QRet.ext hq
theorem LgX.term_c (h : LgX w0 w q b L n V O) (i : Int) : Calls Try.prog 33 #[.pointer (some ⟨q, 0, none⟩), .int .i64 i] w fun e w' => e = .returned (.int .i64 (L.term i)) ∧ Ext [] w w' := by
  obtain ⟨mb, tv, D, h⟩ := h
  exact (term_o w h.blk h.ok h.terms i).mono fun e w' hq => QRet.ext hq
theorem HurtIs.uniq {h : Int → Bool} {r r' : Int} (hr' : HurtIs h r') (hr : HurtIs h r) : r' = r := by
  rcases hr' with ⟨rfl, h1⟩ | ⟨h1, h2⟩
  · rcases hr with ⟨rfl, _⟩ | ⟨h3, _⟩
    · rfl
    · rw [h1] at h3; cases h3
  · rcases hr with ⟨rfl, h3⟩ | ⟨h3, h4⟩
    · rw [h3] at h1; cases h1
    · have := h2 r h3; have := h4 r' h1; omega
theorem LgX.hurt_c (h : LgX w0 w q b L n V O) {r : Int} (hr : HurtIs L.hurt r) : Calls Try.prog 19 #[.pointer (some ⟨q, 0, none⟩)] w fun e w' => e = .returned (.int .i64 r) ∧ Ext [] w w' := by
  obtain ⟨mb, tv, D, h⟩ := h
  refine (hurt_o h).mono ?_
  rintro e w' ⟨⟨r', hr', rfl⟩, hx⟩
  refine ⟨?_, hx⟩
  have : r' = r := by
    rcases hr' with ⟨rfl, h1⟩ | ⟨h1, h2⟩
    · rcases hr with ⟨rfl, _⟩ | ⟨h3, _⟩
      · rfl
      · rw [h1] at h3; cases h3
    · rcases hr with ⟨rfl, h3⟩ | ⟨h3, h4⟩
      · rw [h3] at h1; cases h1
      · have := h2 r h3; have := h4 r' h1; omega
  rw [this]
theorem LgX.read (h : LgX w0 w q b L n V O) (i : Int) : Calls Try.prog 18 #[.pointer (some ⟨q, 0, none⟩), .int .i64 i] w fun e w' => e = .returned (.tuple #[(L.readA V i).1.val, .int .i64 (L.readA V i).2]) ∧ LgX w0 w' q b (L.readL V i) n V O ∧ Kept O w w' := by
  obtain ⟨mb, tv, D, h⟩ := h
  exact (read_o h i).mono fun e w' ⟨he, h1, h2⟩ => ⟨he, ⟨mb, tv, D, h1⟩, h2⟩
theorem LgX.scrub (h : LgX w0 w q b L n V O) : Calls Try.prog 17 #[.pointer (some ⟨q, 0, none⟩)] w fun e w' => e = .returned (.tuple #[]) ∧ LgX w0 w' q b (L.scr V (L.last + 1)) n V O ∧ Kept O w w' := by
  obtain ⟨mb, tv, D, h⟩ := h
  exact (scrub_o h).mono fun e w' ⟨he, h1, h2⟩ => ⟨he, ⟨mb, tv, D, h1⟩, h2⟩
theorem LgSome.x {w' : World} {mb : Nat} (h : LgSome w0 w w' q b mb L n V O) : LgX w0 w' q b L n V O ∧ Kept O w w' := by
  obtain ⟨tv, D, h1, h2⟩ := h
  exact ⟨⟨mb, tv, D, h1⟩, h2⟩
theorem LgX.append (h : LgX w0 w q b L n V O) (es : List Ent) (a : Option Addr) (len cap : Nat) (hR : Rd w 3 (.slice a len cap) len (es.flatMap Ent.cells)) (hO : ∀ z ∈ vblocks (.slice a len cap), z ∈ O) (hes : ∀ e ∈ es, e.i64) :
    Calls Try.prog 26 #[.pointer (some ⟨q, 0, none⟩), .slice a len cap] w fun e w' => e = .returned (.int .i64 (L.appE es)) ∧ LgX w0 w' q b (L.appL es) n (L.appV es V) O ∧ Kept O w w' := by
  obtain ⟨mb, tv, D, h⟩ := h
  exact (append_o h es a len cap hR hO hes).mono fun e w' ⟨he, h1⟩ => ⟨he, h1.x⟩
theorem LgX.cutc (h : LgX w0 w q b L n V O) (lo : Int) (hlo : L.first ≤ lo) (hlo2 : lo ≤ L.last) :
    Calls Try.prog 30 #[.pointer (some ⟨q, 0, none⟩), .int .i64 lo] w fun e w' => e = .returned (.int .i64 0) ∧ ∃ V', CleanP (L.cut lo) lo 2 V V' ∧ LgX w0 w' q b (L.cut lo) n V' O ∧ Kept O w w' := by
  obtain ⟨mb, tv, D, h⟩ := h
  exact (cut_o h lo hlo hlo2).mono fun e w' ⟨he, V', hc, h1⟩ => ⟨he, V', hc, h1.x⟩
theorem LgX.cut_err (h : LgX w0 w q b L n V O) (i : Int) (hi : i < L.first ∨ L.last + 1 < i) : Calls Try.prog 30 #[.pointer (some ⟨q, 0, none⟩), .int .i64 i] w fun e w' => e = .returned (.int .i64 1) ∧ Ext [] w w' := by
  obtain ⟨mb, tv, D, h⟩ := h
  exact Go.Proofs.Ytmjgbkepngeckaa.cut_err h.toLgM i hi
theorem LgX.cut_end (h : LgX w0 w q b L n V O) : Calls Try.prog 30 #[.pointer (some ⟨q, 0, none⟩), .int .i64 (L.last + 1)] w fun e w' => e = .returned (.int .i64 0) ∧ Ext [] w w' := by
  obtain ⟨mb, tv, D, h⟩ := h
  exact Go.Proofs.Ytmjgbkepngeckaa.cut_end h.toLgM
theorem LgX.dropc (h : LgX w0 w q b L n V O) (lo : Int) (hlo : L.first ≤ lo) (hlo2 : lo ≤ L.last + 1) (hlo9 : lo ≤ 1000000000) :
    Calls Try.prog 27 #[.pointer (some ⟨q, 0, none⟩), .int .i64 lo] w fun e w' => e = .returned (.int .i64 0) ∧ LgX w0 w' q b (L.drop lo) n V O ∧ Kept O w w' := by
  obtain ⟨mb, tv, D, h⟩ := h
  exact (drop_o h lo hlo hlo2 hlo9).mono fun e w' ⟨he, h1⟩ => ⟨he, h1.x⟩
theorem LgX.drop_err (h : LgX w0 w q b L n V O) (i : Int) (hi : i < L.first ∨ L.last + 1 < i) : Calls Try.prog 27 #[.pointer (some ⟨q, 0, none⟩), .int .i64 i] w fun e w' => e = .returned (.int .i64 1) ∧ Ext [] w w' := by
  obtain ⟨mb, tv, D, h⟩ := h
  exact Go.Proofs.Ytmjgbkepngeckaa.drop_err h.toLgM i hi
theorem LgX.mendc (h : LgX w0 w q b L n V O) (x : Ent) (h1 : L.first ≤ x.idx) (h2 : x.idx ≤ L.last) (h3 : 1 ≤ x.term) (h4 : x.term ≤ 1099511627776) (h5 : x.data.length ≤ 488) (ht : L.term x.idx = 0 ∨ L.term x.idx = x.term) :
    Calls Try.prog 22 #[.pointer (some ⟨q, 0, none⟩), x.val] w fun e w' => e = .returned (.int .i64 0) ∧ LgX w0 w' q b (L.mend x) n (putV2 L [x] V) O ∧ Kept O w w' := by
  obtain ⟨mb, tv, D, h⟩ := h
  have g1 := h.ok.first
  have g2 := h.ok.firstb
  have g3 := h.ok.len
  have g4 := h.ok.fit
  have g5 := h.ok.base
  have g6 := h.ok.big
  have g7 : L.last = L.first + L.terms.length - 1 := rfl
  have hp := h.fine.put (es := [x]) h.ok (fun e he => by rw [List.mem_singleton.1 he]; exact ⟨⟨by omega, by omega⟩, ⟨by omega, by omega⟩, h5⟩)
  refine (mend_o h.toLgM x h1 h2 h3 h4 h5 ht (by have := h.fine.since; omega)).mono ?_
  rintro e w' ⟨rfl, hm, hk⟩
  rw [hp.1, if_pos rfl] at hm
  exact ⟨by rw [hp.1], ⟨mb, tv, _, ⟨hm, hp.2⟩⟩, hk⟩
theorem LgX.mend_arg (h : LgX w0 w q b L n V O) (x : Ent) (hx : L.last < x.idx) (hx2 : x.idx ≤ 9223372036854775807) : Calls Try.prog 22 #[.pointer (some ⟨q, 0, none⟩), x.val] w fun e w' => e = .returned (.int .i64 1) ∧ Ext [] w w' := by
  obtain ⟨mb, tv, D, h⟩ := h
  exact Go.Proofs.Ytmjgbkepngeckaa.mend_arg h.toLgM x hx hx2
theorem LgX.mend_gap (h : LgX w0 w q b L n V O) (x : Ent) (h1 : L.first ≤ x.idx) (h2 : x.idx ≤ L.last) (h3 : 1 ≤ x.term) (h4 : x.term ≤ 1099511627776) (h5 : x.data.length ≤ 488) (ht : 0 < L.term x.idx) (ht2 : L.term x.idx ≠ x.term) :
    Calls Try.prog 22 #[.pointer (some ⟨q, 0, none⟩), x.val] w fun e w' => e = .returned (.int .i64 8) ∧ Ext [] w w' := by
  obtain ⟨mb, tv, D, h⟩ := h
  exact Go.Proofs.Ytmjgbkepngeckaa.mend_gap h.toLgM x h1 h2 h3 h4 h5 ht ht2
theorem LgX.lose (h : LgX w0 w q b L n V O) (k : Int) (h1 : 0 ≤ k) (h2 : k < n) : Calls Try.prog 28 #[.pointer (some ⟨b, 0, none⟩), .int .i64 k] w fun e w' => e = .returned (.tuple #[]) ∧ LgX w0 w' q b L n (setF V k (2, Rc.zero)) O ∧ Kept O w w' := by
  obtain ⟨mb, tv, D, h⟩ := h
  refine (lose_o b D k w0 w _ h.dev).mono ?_
  rintro e w' ⟨rfl, hd, hk⟩
  have := h.toLgM.devt hd hk
  exact ⟨rfl, ⟨mb, tv, _, ⟨this.1, h.fine.lose h1 h2⟩⟩, this.2⟩
theorem LgX.flip (h : LgX w0 w q b L n V O) (k at_ : Int) (c : UInt8) (h1 : 0 ≤ k) (h2 : k < n) (hg : (V k).1 = 1) (hc : c ≠ 0) (hat : -9223372036854775808 ≤ at_ ∧ at_ ≤ 9223372036854775807) :
    Calls Try.prog 39 #[.pointer (some ⟨b, 0, none⟩), .int .i64 k, .int .i64 at_, .int .u8 (c.toNat : Int)] w fun e w' => e = .returned (.tuple #[]) ∧ LgX w0 w' q b L n (setF V k (2, Rc.zero)) O ∧ Kept O w w' := by
  obtain ⟨mb, tv, D, h⟩ := h
  refine (flip_o b D k at_ c w0 w _ h.dev hat).mono ?_
  rintro e w' ⟨rfl, hd, hk⟩
  have := h.toLgM.devt hd hk
  exact ⟨rfl, ⟨mb, tv, _, ⟨this.1, h.fine.flip h1 h2 hg at_ hc⟩⟩, this.2⟩
theorem DevX.sread (h : DevX w0 w b n V O) (k : Int) (h1 : 0 ≤ k) (h2 : k < n) : Calls Try.prog 15 #[.pointer (some ⟨b, 0, none⟩), .int .i64 k] w fun e w' => e = .returned (.tuple #[(V k).2.val, .int .i64 (V k).1, .int .i64 0]) ∧ Ext [] w w' := by
  obtain ⟨D, h3, h4⟩ := h
  obtain ⟨g1, g2, g3⟩ := h4.read h1 h2
  refine (sread_o b D k w0 w _ h3).mono ?_
  rintro e w2 ⟨rfl, -, hx2⟩
  rw [g1, g2, g3]
  exact ⟨rfl, hx2⟩
/-- Hurt alone: the log's device may be another's by then. -/
structure LgOld (w : World) (q b mb : Nat) (tv : Value) (L : Lg) (n : Int) : Prop where
  blk : LgB w q b mb tv L
  hurt : MapAt w mb (hurtF L.hurt)
  ok : LgOk L n
theorem LgX.old (h : LgX w0 w q b L n V O) : ∃ mb tv, LgOld w q b mb tv L n ∧ DevX w0 w b n V (q :: mb :: O) := by
  obtain ⟨mb, tv, D, h⟩ := h
  exact ⟨mb, tv, ⟨h.blk, h.hurt, h.ok⟩, D, h.toLgM.dev.sub (fun z hz => by simp only [List.mem_cons, List.mem_append] at hz ⊢; rcases hz with h | h | h; exact .inl h; exact .inr (.inl h); exact .inr (.inr (.inr h))), h.fine⟩
theorem LgOld.kept {w' : World} {mb : Nat} {tv : Value} (h : LgOld w q b mb tv L n) (hk : Kept (q :: mb :: O) w w') : LgOld w' q b mb tv L n := by
  refine ⟨hk.blk h.blk (by simp), ?_, h.ok⟩
  obtain ⟨es, clock, hb, h2⟩ := h.hurt
  exact ⟨es, clock, hk mb (by simp) _ hb, h2⟩
theorem LgOld.keep {w' : World} {mb : Nat} {tv : Value} (h : LgOld w q b mb tv L n) (hx : Ext [] w w') : LgOld w' q b mb tv L n := ⟨Blk.keep h.blk hx (by simp), h.hurt.keep hx (by simp), h.ok⟩
theorem LgOld.hurt_c {mb : Nat} {tv : Value} (h : LgOld w q b mb tv L n) {r : Int} (hr : HurtIs L.hurt r) : Calls Try.prog 19 #[.pointer (some ⟨q, 0, none⟩)] w fun e w' => e = .returned (.int .i64 r) ∧ Ext [] w w' := by
  refine (hurt_m h.blk h.hurt h.ok).mono ?_
  rintro e w' ⟨⟨r', hr', rfl⟩, hx⟩
  exact ⟨by rw [hr'.uniq hr], hx⟩
end
end Go.Proofs.Ytmjgbkepngeckaa
