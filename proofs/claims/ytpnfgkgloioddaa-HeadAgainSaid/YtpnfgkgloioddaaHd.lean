/- head.copyOf. -/
import Derived.Test.YtpnfgkgloioddaaHdLaw
import Derived.Test.YtpnfgkgloioddaaSlotr
import Derived.Deep.RegionWith
import Derived.Deep.DeepCutAuto
namespace Go.Proofs.Ytpnfgkgloioddaa
open Go.RowKit
set_option linter.unusedVariables false

def Hd.val (h : Hd) : Value := .agg #[.int .i64 h.term, .int .i64 h.vote, .int .i64 h.first, .int .i64 h.base]
/-- A head lies in block q. -/
def HdAt (w : World) (q : Nat) (h : Hd) : Prop := w.heap[q]? = some (.cells #[.int .i64 h.term, .int .i64 h.vote, .int .i64 h.first, .int .i64 h.base] 75 (0, 0))
theorem HdAt.lt {w : World} {q : Nat} {r : Hd} (h : HdAt w q r) : q < w.heap.size := (Array.getElem?_eq_some_iff.1 h).1
theorem HdAt.c0 {w : World} {q : Nat} {r : Hd} (h : HdAt w q r) : w.cell? ⟨q, 0, none⟩ = some (.int .i64 r.term) := by rw [cell_row h]; rfl
theorem HdAt.c1 {w : World} {q : Nat} {r : Hd} (h : HdAt w q r) : w.cell? ⟨q, 1, none⟩ = some (.int .i64 r.vote) := by rw [cell_row h]; rfl
theorem HdAt.c2 {w : World} {q : Nat} {r : Hd} (h : HdAt w q r) : w.cell? ⟨q, 2, none⟩ = some (.int .i64 r.first) := by rw [cell_row h]; rfl
theorem HdAt.c3 {w : World} {q : Nat} {r : Hd} (h : HdAt w q r) : w.cell? ⟨q, 3, none⟩ = some (.int .i64 r.base) := by rw [cell_row h]; rfl
theorem HdAt.f {w : World} {q : Nat} {r : Hd} (h : HdAt w q r) (j : Nat) : w.frozen? ⟨q, j, none⟩ = false := frozen_of_row w q j _ _ h
theorem HdAt.keep {w w' : World} {q : Nat} {r : Hd} {F : List Nat} (h : HdAt w q r) (hx : Ext F w w') (hq : q ∉ F) : HdAt w' q r := hx.heap hq h
theorem HdAt.new (w : World) (t v f b : Int) : HdAt (w.alloc (.cells #[.int .i64 t, .int .i64 v, .int .i64 f, .int .i64 b] 75)) w.heap.size ⟨t, v, f, b⟩ := heap_alloc_new _ _
theorem RcAt.keepF {w w' : World} {q : Nat} {r : Rc} {F : List Nat} (h : RcAt w q r) (hx : Ext F w w') (hq : q ∉ F) : RcAt w' q r := hx.heap hq h

theorem HdAt.set4 {w : World} {g : Nat} {h : Hd} (hg : HdAt w g h) (t v f b : Int) : HdAt ((((w.setCell ⟨g, 0, none⟩ (.int .i64 t)).setCell ⟨g, 1, none⟩ (.int .i64 v)).setCell ⟨g, 2, none⟩ (.int .i64 f)).setCell ⟨g, 3, none⟩ (.int .i64 b)) g ⟨t, v, f, b⟩ := by
  unfold HdAt at *
  rw [heap_setCell_same _ g 3 _ _ _ (heap_setCell_same _ g 2 _ _ _ (heap_setCell_same _ g 1 _ _ _ (heap_setCell_same w g 0 _ _ _ hg)))]
  rfl
/-- What copyOf has when a head is read. -/
def CpMid (w wx : World) (q p rb : Nat) (h : Hd) (r : Rc) (st : List UInt8 × Bool) (v : Value) : Prop :=
  ∃ g, v = .pointer (some ⟨g, 0, none⟩) ∧ HdAt wx g h ∧ IsR wx rb st ∧ HdAt wx q Hd.zero ∧ RcAt wx p r ∧ Ext [] w wx
theorem cpMid_set {w W : World} {q p rb g : Nat} {r : Rc} {st : List UInt8 × Bool} {h0 : Hd} (t v f b : Int) (hg : HdAt W g h0) (hr : IsR W rb st) (hq : HdAt W q Hd.zero) (hp : RcAt W p r) (hx : Ext [] w W) (h1 : w.heap.size ≤ g) (h2 : rb < g) (h3 : q < g) (h4 : p < g) :
    CpMid w ((((W.setCell ⟨g, 0, none⟩ (.int .i64 t)).setCell ⟨g, 1, none⟩ (.int .i64 v)).setCell ⟨g, 2, none⟩ (.int .i64 f)).setCell ⟨g, 3, none⟩ (.int .i64 b)) q p rb ⟨t, v, f, b⟩ r st (.pointer (some ⟨g, 0, none⟩)) := by
  have hE : Ext [g] W ((((W.setCell ⟨g, 0, none⟩ (.int .i64 t)).setCell ⟨g, 1, none⟩ (.int .i64 v)).setCell ⟨g, 2, none⟩ (.int .i64 f)).setCell ⟨g, 3, none⟩ (.int .i64 b)) :=
    ((((Ext.refl [g] W).setCell (.inl (by simp)) _).setCell (.inl (by simp)) _).setCell (.inl (by simp)) _).setCell (.inl (by simp)) _
  exact ⟨g, rfl, hg.set4 t v f b, hr.keep hE (by simp; omega), hq.keep hE (by simp; omega), hp.keepF hE (by simp; omega), hx.trans hE (by simpa using h1)⟩
theorem cpMid_new {w W : World} {q p rb : Nat} {r : Rc} {st : List UInt8 × Bool} (t v f b : Int) (hr : IsR W rb st) (hq : HdAt W q Hd.zero) (hp : RcAt W p r) (hx : Ext [] w W) :
    CpMid w (W.alloc (.cells #[.int .i64 t, .int .i64 v, .int .i64 f, .int .i64 b] 75)) q p rb ⟨t, v, f, b⟩ r st (.pointer (some ⟨W.heap.size, 0, none⟩)) :=
  have hE : Ext [] W (W.alloc (.cells #[.int .i64 t, .int .i64 v, .int .i64 f, .int .i64 b] 75)) := (Ext.refl _ _).alloc _
  ⟨_, rfl, HdAt.new W t v f b, hr.keep hE (by simp), hq.keep hE (by simp), hp.keepF hE (by simp), hx.then0 hE⟩

theorem hne_of {w : World} {b : Nat} {st : List UInt8 × Bool} (h : IsR w b st) : w.heap.size ∉ [b] := by have := h.lt; simp; omega
def CpPost (k : Int) (D : Dv) (b : Nat) (O : List Nat) (w0 w : World) (e : Ending) (w' : World) : Prop := e = .returned (.tuple #[(cpOf k D).h.val, .int .i64 (cpOf k D).turn, .int .i64 (cpOf k D).st, .int .i64 (cpOf k D).e]) ∧ DevO w0 w' b D O ∧ Ext [] w w'
theorem cpPost {k : Int} {D : Dv} {b : Nat} {O : List Nat} {w0 w w' : World} (h : DevO w0 w b D O) (hx : Ext [] w w') {t v f bb n s e : Int} (hr : cpOf k D = ⟨⟨t, v, f, bb⟩, n, s, e⟩) :
    CpPost k D b O w0 w (.returned (.tuple #[.agg #[.int .i64 t, .int .i64 v, .int .i64 f, .int .i64 bb], .int .i64 n, .int .i64 s, .int .i64 e])) w' := by
  unfold CpPost; rw [hr]
  exact ⟨rfl, h.keep hx, hx⟩
set_option maxHeartbeats 20000000 in
theorem copy_o (b : Nat) (D : Dv) (k : Int) (w0 w : World) (O : List Nat) (h : DevO w0 w b D O) : Calls Try.prog 62 #[.pointer (some ⟨b, 0, none⟩), .int .i64 k] w (CpPost k D b O w0 w) := by
  have HP : Hid (∀ w', Ext [] w w' → ∀ (t v f bb n s e : Int), cpOf k D = ⟨⟨t, v, f, bb⟩, n, s, e⟩ → CpPost k D b O w0 w (.returned (.tuple #[.agg #[.int .i64 t, .int .i64 v, .int .i64 f, .int .i64 bb], .int .i64 n, .int .i64 s, .int .i64 e])) w') :=
    fun w' hx t v f bb n s e h1 => cpPost h hx h1
  have HC : Hid (cpOf k D = if srE k D = 0 ∧ srS k D = 1 then cpRec (srR k D) else ⟨Hd.zero, 0, srS k D, srE k D⟩) := rfl
  have hgl : (srR k D).data.length ≤ 512 := by
    unfold srR
    split
    · have := h.ok.readV k
      by_cases hg : getS (readV k D) = 1
      · have := (putE_ok (put_get hg).1).2; omega
      · rw [getR_zero hg]; simp [Rc.zero]
    · simp [Rc.zero]
  go_enter Try.func62, Try.ntmps62
  go_wp2_with fail
  obtain ⟨q, hq⟩ : ∃ q, q = w.heap.size := ⟨_, rfl⟩
  refine (sread_o b D k w0 _ O (h.keep ((Ext.refl _ _).alloc _))).mono ?_
  rintro e w1 ⟨rfl, -, hx⟩
  have hr1 : HdAt w1 q Hd.zero := by subst hq; exact (HdAt.new w 0 0 0 0).keep hx (by simp)
  have hxw : Ext [] w w1 := ((Ext.refl _ _).alloc _).then0 hx
  have hq0 : w.heap.size ≤ q := by omega
  rw [← hq]
  clear hx hq h
  obtain ⟨R, hR⟩ : ∃ v, v = srR k D := ⟨_, rfl⟩
  obtain ⟨S, hS⟩ : ∃ v, v = srS k D := ⟨_, rfl⟩
  obtain ⟨E, hE⟩ : ∃ v, v = srE k D := ⟨_, rfl⟩
  rw [← hR, ← hS, ← hE] at HC
  rw [← hR] at hgl
  rw [← hR, ← hS, ← hE]
  clear hR hS hE
  have z0 := hr1.c0
  have z1 := hr1.c1
  have z2 := hr1.c2
  have z3 := hr1.c3
  have zf := hr1.f
  have zl := hr1.lt
  simp only [Hd.zero] at z0 z1 z2 z3
  by_cases hc : E = 0 ∧ S = 1
  · have HC2 : Hid (cpOf k D = cpRec R) := by show _ = _; rw [HC.out, if_pos hc]
    obtain ⟨rfl, rfl⟩ := hc
    clear HC
    have HC3 : Hid (cpRec R = if doneR (readHd R.data).2.2.2 = 0 ∧ R.kind = 1 then ⟨⟨R.term, (readHd R.data).1, (readHd R.data).2.1, (readHd R.data).2.2.1⟩, R.idx, 1, 0⟩ else ⟨Hd.zero, 0, 2, 0⟩) := rfl
    obtain ⟨k1, i1, t1, d1⟩ := R
    simp only at HC3 hgl
    unfold Rc.val
    simp only
    obtain ⟨p, hp⟩ : ∃ p, p = w1.heap.size := ⟨_, rfl⟩
    go_wp2_with fail
    refine (read_any d1 _).mono ?_
    rintro e w2 ⟨rfl, h2, hx2⟩
    have rp : RcAt w2 p ⟨k1, i1, t1, d1⟩ := by subst hp; exact (RcAt.new w1 k1 i1 t1 d1).keep hx2
    have hr2 : HdAt w2 q Hd.zero := (hr1.keep ((Ext.refl [] _).alloc _) (by simp)).keep hx2 (by simp)
    have hxw2 : Ext [] w w2 := (hxw.alloc _).then0 hx2
    have hbp : (w1.alloc (.cells #[.int .i64 k1, .int .i64 i1, .int .i64 t1, .string ⟨d1.toArray⟩] 40)).heap.size = p + 1 := by simp [hp]
    rw [hbp] at h2 ⊢
    have hp1 : w1.heap.size ≤ p := by omega
    have hpq : ¬ p = q := by omega
    have hqp0 : ¬ q = p := by omega
    rw [← hp]
    clear hx2 hbp hp hr1 z0 z1 z2 z3 zf
    obtain ⟨rb, hrb⟩ : ∃ b, b = p + 1 := ⟨_, rfl⟩
    rw [← hrb] at h2 ⊢
    have hqp : q ∉ [rb] ∧ p ∉ [rb] := by simp; omega
    have hwb : w.heap.size ≤ rb := by have := hxw.size; omega
    clear hrb
    have hsz : w1.heap.size ≤ w2.heap.size := by have := rp.lt; omega
    clear hxw
    have l1 := numR_len 7 (d1, false)
    simp only at l1
    obtain ⟨n1, hn1⟩ : ∃ n, n = numR 7 (d1, false) := ⟨_, rfl⟩
    have l2 := numR_len 281474976710655 n1.2
    obtain ⟨n2, hn2⟩ : ∃ n, n = numR 281474976710655 n1.2 := ⟨_, rfl⟩
    obtain ⟨n3, hn3⟩ : ∃ n, n = numR 281474976710655 n2.2 := ⟨_, rfl⟩
    have hrd : readHd d1 = (n1.1, n2.1, n3.1, n3.2) := by rw [hn3, hn2, hn1]; rfl
    rw [hrd] at HC3
    rw [← hn1] at l1
    rw [← hn2] at l2
    have N1 : ∀ W, IsR W rb (d1, false) → Calls Try.prog 57 #[.pointer (some ⟨rb, 0, none⟩), .int .i64 7] W fun e w' => e = .returned (.int .i64 n1.1) ∧ IsR w' rb n1.2 ∧ Ext [rb] W w' := fun W hW => by rw [hn1]; exact rnum_any rb 7 (d1, false) W hW (by simp only; omega)
    have N2 : ∀ W, IsR W rb n1.2 → Calls Try.prog 57 #[.pointer (some ⟨rb, 0, none⟩), .int .i64 281474976710655] W fun e w' => e = .returned (.int .i64 n2.1) ∧ IsR w' rb n2.2 ∧ Ext [rb] W w' := fun W hW => by rw [hn2]; exact rnum_any rb 281474976710655 n1.2 W hW (by omega)
    have N3 : ∀ W, IsR W rb n2.2 → Calls Try.prog 57 #[.pointer (some ⟨rb, 0, none⟩), .int .i64 281474976710655] W fun e w' => e = .returned (.int .i64 n3.1) ∧ IsR w' rb n3.2 ∧ Ext [rb] W w' := fun W hW => by rw [hn3]; exact rnum_any rb 281474976710655 n2.2 W hW (by omega)
    clear hrd hn1 hn2 hn3 l1 l2
    have hq_w2 := hr2
    have rp_w2 := rp
    have hxw_w2 := hxw2
    have hl_w2 := h2.lt
    have hne_w2 := hne_of h2
    have hwb' : ∀ x ∈ [rb], x ∈ [] ∨ w.heap.size ≤ x := by simpa using hwb
    have hs_w2 := hr2.lt
    have ht_w2 := rp.lt
    go_upto_region 5 with fail
    have cI := rp.c2
    simp only at cI
    go_cut [12] from 32 to 41 (fun v wx => CpMid w wx q p rb ⟨t1, n1.1, n2.1, n3.1⟩ ⟨k1, i1, t1, d1⟩ n3.2 v)
    case first =>
      go_region_with
        (first
          | ((try go_at_call 57); (with_reducible refine (N1 _ ?hI).mono ?_); (case hI => first | exact h2.keep ((Ext.refl [] _).drew) List.not_mem_nil | exact h2.keep (((Ext.refl [] _).alloc _).drew) List.not_mem_nil); rintro e w3 ⟨rfl, h3, hx3⟩; (first | have hq_w3 := (hq_w2.keep ((Ext.refl [] _).drew) List.not_mem_nil).keep hx3 hqp.1 | have hq_w3 := (hq_w2.keep (((Ext.refl [] _).alloc _).drew) List.not_mem_nil).keep hx3 hqp.1); (first | have rp_w3 := (rp_w2.keepF ((Ext.refl [] _).drew) List.not_mem_nil).keepF hx3 hqp.2 | have rp_w3 := (rp_w2.keepF (((Ext.refl [] _).alloc _).drew) List.not_mem_nil).keepF hx3 hqp.2); (first | have hxw_w3 := (hxw_w2.then0 ((Ext.refl [] _).drew)).trans hx3 hwb' | have hxw_w3 := (hxw_w2.then0 (((Ext.refl [] _).alloc _).drew)).trans hx3 hwb'); (try have hg_w3 := ((HdAt.new w2 0 0 0 0).keep (F := []) ((Ext.refl [] _).drew) List.not_mem_nil).keep hx3 hne_w2); have hne_w3 := hne_of h3; have hl_w3 := h3.lt; have hs_w3 := hq_w3.lt; have ht_w3 := rp_w3.lt; have cI_w3 : w3.cell? ⟨p, 2, none⟩ = some (.int .i64 t1) := rp_w3.c2; clear N1)
          | ((try go_at_call 57); (with_reducible refine (N2 _ ?hI).mono ?_); (case hI => first | exact h3.keep (Ext.refl [] _) List.not_mem_nil | exact h3.keep ((Ext.refl [] _).alloc _) List.not_mem_nil); rintro e w4 ⟨rfl, h4, hx4⟩; (first | have hq_w4 := (hq_w3.keep (Ext.refl [] _) List.not_mem_nil).keep hx4 hqp.1 | have hq_w4 := (hq_w3.keep ((Ext.refl [] _).alloc _) List.not_mem_nil).keep hx4 hqp.1); (first | have rp_w4 := (rp_w3.keepF (Ext.refl [] _) List.not_mem_nil).keepF hx4 hqp.2 | have rp_w4 := (rp_w3.keepF ((Ext.refl [] _).alloc _) List.not_mem_nil).keepF hx4 hqp.2); (first | have hxw_w4 := (hxw_w3.then0 (Ext.refl [] _)).trans hx4 hwb' | have hxw_w4 := (hxw_w3.then0 ((Ext.refl [] _).alloc _)).trans hx4 hwb'); (try (first | have hg_w4 := hg_w3.keep hx4 hne_w2 | have hg_w4 := hg_w3.keep hx4 hne_w3)); (try have hg_w4 := ((HdAt.new w3 0 0 0 0).keep (F := []) (Ext.refl [] _) List.not_mem_nil).keep hx4 hne_w3); have hne_w4 := hne_of h4; have hl_w4 := h4.lt; have hs_w4 := hq_w4.lt; have ht_w4 := rp_w4.lt; have cI_w4 : w4.cell? ⟨p, 2, none⟩ = some (.int .i64 t1) := rp_w4.c2; clear N2)
          | ((try go_at_call 57); (with_reducible refine (N3 _ ?hI).mono ?_); (case hI => first | exact h4.keep (Ext.refl [] _) List.not_mem_nil | exact h4.keep ((Ext.refl [] _).alloc _) List.not_mem_nil); rintro e w5 ⟨rfl, h5, hx5⟩; (first | have hq_w5 := (hq_w4.keep (Ext.refl [] _) List.not_mem_nil).keep hx5 hqp.1 | have hq_w5 := (hq_w4.keep ((Ext.refl [] _).alloc _) List.not_mem_nil).keep hx5 hqp.1); (first | have rp_w5 := (rp_w4.keepF (Ext.refl [] _) List.not_mem_nil).keepF hx5 hqp.2 | have rp_w5 := (rp_w4.keepF ((Ext.refl [] _).alloc _) List.not_mem_nil).keepF hx5 hqp.2); (first | have hxw_w5 := (hxw_w4.then0 (Ext.refl [] _)).trans hx5 hwb' | have hxw_w5 := (hxw_w4.then0 ((Ext.refl [] _).alloc _)).trans hx5 hwb'); (try (first | have hg_w5 := hg_w4.keep hx5 hne_w2 | have hg_w5 := hg_w4.keep hx5 hne_w3)); (try have hg_w5 := ((HdAt.new w4 0 0 0 0).keep (F := []) (Ext.refl [] _) List.not_mem_nil).keep hx5 hne_w4); have hne_w5 := hne_of h5; have hl_w5 := h5.lt; have hs_w5 := hq_w5.lt; have ht_w5 := rp_w5.lt; have cI_w5 : w5.cell? ⟨p, 2, none⟩ = some (.int .i64 t1) := rp_w5.c2; clear N3; (try (have g0 := hg_w5.c0; have g1 := hg_w5.c1; have g2 := hg_w5.c2; have g3 := hg_w5.c3; have gf := hg_w5.f; have gl := hg_w5.lt; simp only at g0 g1 g2 g3))))
      all_goals go_wp2_with fail
      all_goals go_meet
      all_goals (
        have hz2 := hxw_w2.size
        have hz3 := hxw_w3.size
        have hz4 := hxw_w4.size
        first
        | with_reducible exact cpMid_new _ _ _ _ h5 hq_w5 rp_w5 hxw_w5
        | (with_reducible refine cpMid_set _ _ _ _ hg_w5 h5 hq_w5 rp_w5 hxw_w5 ?_ ?_ ?_ ?_) <;> omega)
    case rest =>
      obtain ⟨g, rfl, hg, hr, hq', hp', hxw'⟩ := hcut
      have b0 := hp'.c0
      have b1 := hp'.c1
      have g0 := hg.c0
      have g1 := hg.c1
      have g2 := hg.c2
      have g3 := hg.c3
      have z0 := hq'.c0
      have z1 := hq'.c1
      have z2 := hq'.c2
      have z3 := hq'.c3
      have zf := hq'.f
      have zl := hq'.lt
      have pl := hp'.lt
      have gl := hg.lt
      simp only [Hd.zero] at z0 z1 z2 z3
      simp only at b0 b1 g0 g1 g2 g3
      clear hg hq' hp' hq_w2 rp_w2 hxw_w2 hl_w2 hne_w2 hwb' hs_w2 ht_w2 N1 N2 N3 h2 rp hr2 hxw2 hp1 hqp hwb hsz hgl
      obtain ⟨x1, hx1⟩ : ∃ x, x = n1.1 := ⟨_, rfl⟩
      obtain ⟨x2, hx2⟩ : ∃ x, x = n2.1 := ⟨_, rfl⟩
      obtain ⟨x3, hx3⟩ : ∃ x, x = n3.1 := ⟨_, rfl⟩
      obtain ⟨st, hst⟩ : ∃ x, x = n3.2 := ⟨_, rfl⟩
      rw [← hx1, ← hx2, ← hx3, ← hst] at HC3
      rw [← hx1] at g1
      rw [← hx2] at g2
      rw [← hx3] at g3
      rw [← hst] at hr
      clear hx1 hx2 hx3 hst n1 n2 n3
      have HY : Hid (doneR st = 0 → k1 = 1 → ∀ w', Ext [] w w' → CpPost k D b O w0 w (.returned (.tuple #[.agg #[.int .i64 t1, .int .i64 x1, .int .i64 x2, .int .i64 x3], .int .i64 i1, .int .i64 1, .int .i64 0])) w') :=
        fun h1 h2 w' hx => HP.out w' hx _ _ _ _ _ _ _ (by rw [HC2.out, HC3.out, if_pos ⟨h1, h2⟩])
      have HN : Hid (¬ (doneR st = 0 ∧ k1 = 1) → ∀ w', Ext [] w w' → CpPost k D b O w0 w (.returned (.tuple #[.agg #[.int .i64 0, .int .i64 0, .int .i64 0, .int .i64 0], .int .i64 0, .int .i64 2, .int .i64 0])) w') :=
        fun h1 w' hx => HP.out w' hx _ _ _ _ _ _ _ (by rw [HC2.out, HC3.out, if_neg h1]; rfl)
      clear HC2 HC3 HP
      go_wp2_with fail
      refine (rdone_any rb st _ hr).mono ?_
      rintro e w7 ⟨rfl, rfl⟩
      by_cases hd : doneR st = 0
      · rw [hd]
        by_cases hk : k1 = 1
        · subst hk
          have HQ : Hid (∀ w', Ext [] w w' → CpPost k D b O w0 w (.returned (.tuple #[.agg #[.int .i64 t1, .int .i64 x1, .int .i64 x2, .int .i64 x3], .int .i64 i1, .int .i64 1, .int .i64 0])) w') := HY.out hd rfl
          clear HY HN hd
          go_wp2
          go_region
          all_goals (
            go_wp2
            refine bodyPost_ret (v := .tuple #[.agg #[.int .i64 t1, .int .i64 x1, .int .i64 x2, .int .i64 x3], .int .i64 i1, .int .i64 1, .int .i64 0]) ?_ (by rfl) (HQ.out _ ?_)
            · simp [results, Try.results62, go_sem, z0, z1, z2, z3]
            · exact ((((hxw'.drew.setCell (.inr hq0) _).setCell (.inr hq0) _).setCell (.inr hq0) _).setCell (.inr hq0) _))
        · have HQ : Hid (∀ w', Ext [] w w' → CpPost k D b O w0 w (.returned (.tuple #[.agg #[.int .i64 0, .int .i64 0, .int .i64 0, .int .i64 0], .int .i64 0, .int .i64 2, .int .i64 0])) w') := HN.out (fun h => hk h.2)
          clear HY HN hd
          go_wp2
          refine bodyPost_ret (v := .tuple #[.agg #[.int .i64 0, .int .i64 0, .int .i64 0, .int .i64 0], .int .i64 0, .int .i64 2, .int .i64 0]) ?_ (by rfl) (HQ.out _ ?_)
          · simp [results, Try.results62, go_sem, z0, z1, z2, z3]
          · exact ((((hxw'.setCell (.inr hq0) _).setCell (.inr hq0) _).setCell (.inr hq0) _).setCell (.inr hq0) _)
      · have HQ : Hid (∀ w', Ext [] w w' → CpPost k D b O w0 w (.returned (.tuple #[.agg #[.int .i64 0, .int .i64 0, .int .i64 0, .int .i64 0], .int .i64 0, .int .i64 2, .int .i64 0])) w') := HN.out (fun h => hd h.1)
        have hd2 : doneR st = 2 := (doneR_cases st).resolve_left hd
        rw [hd2]
        clear HY HN hd hd2
        go_wp2
        refine bodyPost_ret (v := .tuple #[.agg #[.int .i64 0, .int .i64 0, .int .i64 0, .int .i64 0], .int .i64 0, .int .i64 2, .int .i64 0]) ?_ (by rfl) (HQ.out _ ?_)
        · simp [results, Try.results62, go_sem, z0, z1, z2, z3]
        · exact ((((hxw'.setCell (.inr hq0) _).setCell (.inr hq0) _).setCell (.inr hq0) _).setCell (.inr hq0) _)
  · have HQ : Hid (∀ w', Ext [] w w' → CpPost k D b O w0 w (.returned (.tuple #[.agg #[.int .i64 0, .int .i64 0, .int .i64 0, .int .i64 0], .int .i64 0, .int .i64 S, .int .i64 E])) w') :=
      fun w' hx => HP.out w' hx _ _ _ _ _ _ _ (by rw [HC.out, if_neg hc]; rfl)
    obtain ⟨k1, i1, t1, d1⟩ := R
    unfold Rc.val
    simp only
    clear HC HP hgl hr1
    by_cases hE : E = 0
    · have hS : ¬ S = 1 := fun h => hc ⟨hE, h⟩
      subst hE
      clear hc
      go_wp2
      refine bodyPost_ret (v := .tuple #[.agg #[.int .i64 0, .int .i64 0, .int .i64 0, .int .i64 0], .int .i64 0, .int .i64 S, .int .i64 0]) ?_ (by rfl) (HQ.out _ ?_)
      · simp [results, Try.results62, go_sem, z0, z1, z2, z3, zl]
      · exact (((((hxw.setCell (.inr hq0) _).setCell (.inr hq0) _).setCell (.inr hq0) _).setCell (.inr hq0) _).alloc _)
    · clear hc
      go_wp2
      refine bodyPost_ret (v := .tuple #[.agg #[.int .i64 0, .int .i64 0, .int .i64 0, .int .i64 0], .int .i64 0, .int .i64 S, .int .i64 E]) ?_ (by rfl) (HQ.out _ ?_)
      · simp [results, Try.results62, go_sem, z0, z1, z2, z3, zl]
      · exact (((((hxw.setCell (.inr hq0) _).setCell (.inr hq0) _).setCell (.inr hq0) _).setCell (.inr hq0) _).alloc _)
end Go.Proofs.Ytpnfgkgloioddaa
