/- slot.Read. -/
import Derived.Test.YtmjgbkepngeckaaDevO
namespace Go.Proofs.Ytmjgbkepngeckaa
open Go.RowKit
set_option linter.unusedVariables false

def SReadPost (k : Int) (D : Dv) (b : Nat) (O : List Nat) (w0 w : World) (e : Ending) (w' : World) : Prop := e = .returned (.tuple #[(srR k D).val, .int .i64 (srS k D), .int .i64 (srE k D)]) ∧ DevO w0 w' b D O ∧ Ext [] w w'
theorem sreadPost {k : Int} {D : Dv} {b : Nat} {O : List Nat} {w0 w w' : World} (h : DevO w0 w b D O) (hx : Ext [] w w') {r : Rc} {s n : Int} (hr : srR k D = r) (hs : srS k D = s) (hn : srE k D = n) :
    SReadPost k D b O w0 w (.returned (.tuple #[.agg #[.int .i64 r.kind, .int .i64 r.idx, .int .i64 r.term, str r.data], .int .i64 s, .int .i64 n])) w' := by
  subst hr; subst hs; subst hn
  exact ⟨rfl, h.keep hx, hx⟩

set_option maxHeartbeats 1600000 in
theorem sread_o (b : Nat) (D : Dv) (k : Int) (w0 w : World) (O : List Nat) (h : DevO w0 w b D O) : Calls Try.prog 15 #[.pointer (some ⟨b, 0, none⟩), .int .i64 k] w (SReadPost k D b O w0 w) := by
  have HP : Hid (∀ w', Ext [] w w' → ∀ (r : Rc) (s n : Int), srR k D = r → srS k D = s → srE k D = n → SReadPost k D b O w0 w (.returned (.tuple #[.agg #[.int .i64 r.kind, .int .i64 r.idx, .int .i64 r.term, str r.data], .int .i64 s, .int .i64 n])) w') :=
    fun w' hx r s n h1 h2 h3 => sreadPost h hx h1 h2 h3
  have HC := readE_cases k D
  have hl := h.ok.readV k
  have HR : Hid (srR k D = if readE k D = 0 then getR (readV k D) else Rc.zero) := rfl
  have HS : Hid (srS k D = if readE k D = 6 then 2 else if readE k D = 0 then getS (readV k D) else 0) := rfl
  have HE : Hid (srE k D = if readE k D = 6 then 0 else readE k D) := rfl
  go_enter Try.func15, Try.ntmps15
  go_wp2_with fail
  obtain ⟨q, hq⟩ : ∃ q, q = w.heap.size := ⟨_, rfl⟩
  refine (dread_o b D k w0 _ O (h.keep ((Ext.refl _ _).alloc _))).mono ?_
  rintro e w1 ⟨rfl, -, hx⟩
  have hr1 : RcAt w1 q Rc.zero := by subst hq; exact (RcAt.new w 0 0 0 []).keep hx
  have hxw : Ext [] w w1 := ((Ext.refl _ _).alloc _).then0 hx
  have hq0 : w.heap.size ≤ q := by omega
  rw [← hq]
  clear hx hq h
  obtain ⟨v, hv⟩ : ∃ v, v = readV k D := ⟨_, rfl⟩
  obtain ⟨x, hx⟩ : ∃ x, x = readE k D := ⟨_, rfl⟩
  rw [← hv] at HR HS hl ⊢
  rw [← hx] at HR HS HE HC ⊢
  clear hv hx
  have fz := fun j => frozen_of_row w1 q j _ _ hr1
  have hlt := hr1.lt
  have c0 := hr1.c0
  have c1 := hr1.c1
  have c2 := hr1.c2
  have c3 := hr1.c3
  have bad : ∀ y : Int, y = x → y ≠ 0 → y ≠ 6 → SReadPost k D b O w0 w (.returned (.tuple #[.agg #[.int .i64 0, .int .i64 0, .int .i64 0, str []], .int .i64 0, .int .i64 y])) ((((w1.setCell ⟨q, 0, none⟩ (.int .i64 0)).setCell ⟨q, 1, none⟩ (.int .i64 0)).setCell ⟨q, 2, none⟩ (.int .i64 0)).setCell ⟨q, 3, none⟩ (.string ⟨#[]⟩)) := by
    rintro y rfl h1 h2
    have hx' : Ext [] w ((((w1.setCell ⟨q, 0, none⟩ (.int .i64 0)).setCell ⟨q, 1, none⟩ (.int .i64 0)).setCell ⟨q, 2, none⟩ (.int .i64 0)).setCell ⟨q, 3, none⟩ (.string ⟨#[]⟩)) :=
      (((hxw.setCell (.inr hq0) _).setCell (.inr hq0) _).setCell (.inr hq0) _).setCell (.inr hq0) _
    exact HP.out _ hx' Rc.zero 0 y (by rw [HR.out, if_neg h1]) (by rw [HS.out, if_neg h2, if_neg h1]) (by rw [HE.out, if_neg h2])
  have HB : Hid (∀ y : Int, y = x → y ≠ 0 → y ≠ 6 → SReadPost k D b O w0 w (.returned (.tuple #[.agg #[.int .i64 0, .int .i64 0, .int .i64 0, str []], .int .i64 0, .int .i64 y])) ((((w1.setCell ⟨q, 0, none⟩ (.int .i64 0)).setCell ⟨q, 1, none⟩ (.int .i64 0)).setCell ⟨q, 2, none⟩ (.int .i64 0)).setCell ⟨q, 3, none⟩ (.string ⟨#[]⟩))) := bad
  clear bad
  simp only [Rc.zero] at c0 c1 c2 c3
  clear hr1
  rcases HC with h0 | h0 | h0 | h0
  · rw [h0] at HR HS HE ⊢
    rw [if_pos rfl] at HR
    rw [if_neg (by decide), if_pos rfl] at HS
    rw [if_neg (by decide)] at HE
    clear HB h0 x
    go_wp2_with fail
    refine (sget_any v w1 (by omega)).mono ?_
    rintro e w2 ⟨rfl, hx2⟩
    have hxw2 := hxw.then0 hx2
    have fz2 : ∀ j, w2.frozen? ⟨q, j, none⟩ = false := fun j => by rw [← fz j]; exact hx2.frozen (by simp) (by show q < w1.heap.size; omega)
    have hlt2 : q < w2.heap.size := Nat.lt_of_lt_of_le hlt hx2.size
    replace c0 := hx2.cell (by simp) c0
    replace c1 := hx2.cell (by simp) c1
    replace c2 := hx2.cell (by simp) c2
    replace c3 := hx2.cell (by simp) c3
    have HQ : Hid (∀ w', Ext [] w w' → SReadPost k D b O w0 w (.returned (.tuple #[.agg #[.int .i64 (getR v).kind, .int .i64 (getR v).idx, .int .i64 (getR v).term, str (getR v).data], .int .i64 (getS v), .int .i64 0])) w') := fun w' hx => HP.out w' hx _ _ _ HR.out HS.out HE.out
    unfold Rc.val
    generalize getR v = r at HQ ⊢
    generalize getS v = n at HQ ⊢
    obtain ⟨k1, i1, t1, d1⟩ := r
    simp only at HQ ⊢
    clear HP HR HS HE fz hlt hx2 hxw hl
    go_wp2
    refine bodyPost_ret (v := .tuple #[.agg #[.int .i64 k1, .int .i64 i1, .int .i64 t1, str d1], .int .i64 n, .int .i64 0]) ?_ (by rfl) (HQ.out _ ?_)
    · simp [results, Try.results15, go_sem, c0, c1, c2, c3, hlt2]
    · exact (((((hxw2.setCell (.inr hq0) _).setCell (.inr hq0) _).setCell (.inr hq0) _).setCell (.inr hq0) _).alloc _)
  · have hb := HB.out 5 h0.symm (by decide) (by decide)
    rw [h0]
    clear HB HP HR HS HE h0
    go_wp2
    refine bodyPost_ret (v := .tuple #[.agg #[.int .i64 0, .int .i64 0, .int .i64 0, .string ⟨#[]⟩], .int .i64 0, .int .i64 5]) ?_ (by rfl) hb
    simp [results, Try.results15, go_sem, c0, c1, c2, c3]
  · rw [h0] at HR HS HE ⊢
    rw [if_neg (by decide)] at HR
    rw [if_pos rfl] at HS
    rw [if_pos rfl] at HE
    have HQ : Hid (∀ w', Ext [] w w' → SReadPost k D b O w0 w (.returned (.tuple #[.agg #[.int .i64 0, .int .i64 0, .int .i64 0, str []], .int .i64 2, .int .i64 0])) w') := fun w' hx => HP.out w' hx Rc.zero _ _ HR.out HS.out HE.out
    clear HB h0 HP HR HS HE
    go_wp2
    refine bodyPost_ret (v := .tuple #[.agg #[.int .i64 0, .int .i64 0, .int .i64 0, .string ⟨#[]⟩], .int .i64 2, .int .i64 0]) ?_ (by rfl) (HQ.out _ ?_)
    · simp [results, Try.results15, go_sem, c0, c1, c2, c3]
    · exact ((((hxw.setCell (.inr hq0) _).setCell (.inr hq0) _).setCell (.inr hq0) _).setCell (.inr hq0) _)
  · have hb := HB.out 7 h0.symm (by decide) (by decide)
    rw [h0]
    clear HB HP HR HS HE h0
    go_wp2
    refine bodyPost_ret (v := .tuple #[.agg #[.int .i64 0, .int .i64 0, .int .i64 0, .string ⟨#[]⟩], .int .i64 0, .int .i64 7]) ?_ (by rfl) hb
    simp [results, Try.results15, go_sem, c0, c1, c2, c3]
end Go.Proofs.Ytmjgbkepngeckaa
