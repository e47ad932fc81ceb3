/- The contracts of the reader of layer 1: Read, take, Fail, Num, Text, Flag, OK, Done. -/
import Derived.Test.YtmjgbkepngeckaaPith
import Derived.Deep.QuietTactic
import Derived.BigQuiet
namespace Go.Proofs.Ytmjgbkepngeckaa
open Go.RowKit
set_option linter.unusedVariables false
attribute [local go_sem high] run_max2 run_min2

/-- A reader lies in block b: what is left, and whether there was an error. -/
def IsR (w : World) (b : Nat) (st : List UInt8 × Bool) : Prop := w.heap[b]? = some (.cells #[str st.1, .bool st.2] 116 (0, 0))
theorem IsR.lt {w : World} {b : Nat} {st : List UInt8 × Bool} (h : IsR w b st) : b < w.heap.size := (Array.getElem?_eq_some_iff.1 h).1
theorem IsR.c0 {w : World} {b : Nat} {s : List UInt8} {bad : Bool} (h : IsR w b (s, bad)) : w.cell? ⟨b, 0, none⟩ = some (str s) := by rw [cell_row h]; rfl
theorem IsR.c1 {w : World} {b : Nat} {s : List UInt8} {bad : Bool} (h : IsR w b (s, bad)) : w.cell? ⟨b, 1, none⟩ = some (.bool bad) := by rw [cell_row h]; rfl
theorem IsR.f {w : World} {b : Nat} {st : List UInt8 × Bool} (h : IsR w b st) (j : Nat) : w.frozen? ⟨b, j, none⟩ = false := frozen_of_row w b j _ _ h
theorem IsR.keep {w w' : World} {b : Nat} {st : List UInt8 × Bool} {F : List Nat} (h : IsR w b st) (hx : Ext F w w') (hb : b ∉ F) : IsR w' b st := hx.heap hb h
theorem IsR.set0 {w : World} {b : Nat} {s : List UInt8} {bad : Bool} (h : IsR w b (s, bad)) (t : List UInt8) : IsR (w.setCell ⟨b, 0, none⟩ (str t)) b (t, bad) := by
  unfold IsR at *; rw [heap_setCell_same w b 0 _ _ _ h]; rfl
theorem IsR.set1 {w : World} {b : Nat} {s : List UInt8} {bad : Bool} (h : IsR w b (s, bad)) (c : Bool) : IsR (w.setCell ⟨b, 1, none⟩ (.bool c)) b (s, c) := by
  unfold IsR at *; rw [heap_setCell_same w b 1 _ _ _ h]; rfl

theorem read_any (s : List UInt8) (w : World) : Calls Try.prog 50 #[str s] w fun e w' => e = .returned (.pointer (some ⟨w.heap.size, 0, none⟩)) ∧ IsR w' w.heap.size (s, false) ∧ Ext [] w w' := by
  go_enter Try.func50, Try.ntmps50
  go_wp2
  go_ret
  exact ⟨rfl, heap_alloc_new _ _, (Ext.refl _ _).alloc _⟩

theorem fail_any (b : Nat) (st : List UInt8 × Bool) (w : World) (h : IsR w b st) : Calls Try.prog 62 #[.pointer (some ⟨b, 0, none⟩)] w fun e w' => e = .returned (.tuple #[]) ∧ IsR w' b ([], true) ∧ Ext [b] w w' := by
  obtain ⟨s, bad⟩ := st
  have c0 := h.c0
  have c1 := h.c1
  have f0 := h.f 0
  have f1 := h.f 1
  go_enter Try.func62, Try.ntmps62
  go_wp2
  go_end0
  exact ⟨rfl, (h.set0 []).set1 true, ((Ext.refl _ _).setCell (by simp) _).setCell (by simp) _⟩
theorem fail_nil (w : World) : Calls Try.prog 62 #[.pointer none] w fun e w' => e = .returned (.tuple #[]) ∧ w = w' := by
  go_enter Try.func62, Try.ntmps62
  go_wp2
  go_end0
  exact ⟨rfl, rfl⟩

/-- take, as a function. -/
def takeR (n : Nat) (st : List UInt8 × Bool) : List UInt8 × (List UInt8 × Bool) :=
  if st.2 = true ∨ st.1.length < n then ([], ([], true)) else (st.1.take n, (st.1.drop n, false))

set_option maxHeartbeats 400000 in
theorem take_any (b n : Nat) (st : List UInt8 × Bool) (w : World) (h : IsR w b st) (hn : n ≤ 1000000) (hs : st.1.length ≤ 1000000000000) :
    Calls Try.prog 61 #[.pointer (some ⟨b, 0, none⟩), .int .i64 n] w fun e w' => e = .returned (str (takeR n st).1) ∧ IsR w' b (takeR n st).2 ∧ Ext [b] w w' := by
  obtain ⟨s, bad⟩ := st
  have c0 := h.c0
  have c1 := h.c1
  have f0 := h.f 0
  simp only at hs
  by_cases hbad : bad = true
  · have e1 : takeR n (s, bad) = ([], ([], true)) := if_pos (.inl hbad)
    rw [e1]
    subst hbad
    clear e1
    go_enter Try.func61, Try.ntmps61
    go_wp2_with fail
    refine (fail_any b _ w h).mono ?_
    rintro e w1 ⟨rfl, h1, hx⟩
    go_wp2
    go_ret
    exact ⟨rfl, h1, hx⟩
  · have hb2 : bad = false := by simpa using hbad
    subst hb2
    by_cases hl : s.length < n
    · have e1 : takeR n (s, false) = ([], ([], true)) := if_pos (.inr hl)
      rw [e1]
      clear e1 hbad
      go_enter Try.func61, Try.ntmps61
      go_wp2_with fail
      refine (fail_any b _ w h).mono ?_
      rintro e w1 ⟨rfl, h1, hx⟩
      go_wp2
      go_ret
      exact ⟨rfl, h1, hx⟩
    · have e1 : takeR n (s, false) = (s.take n, (s.drop n, false)) := if_neg (by simp; omega)
      rw [e1]
      have hex := take_extract s n (by omega)
      have hey := drop_extract s n (by omega)
      clear e1 hbad
      go_enter Try.func61, Try.ntmps61
      go_wp2
      go_ret
      exact ⟨rfl, h.set0 _, (Ext.refl _ _).setCell (by simp) _⟩

theorem or256 (x : Nat) (c : UInt8) (hx : x < 281474976710656) : bits .or .i64 ((x : Int) * 256) (c.toNat : Int) = ((x * 256 + c.toNat : Nat) : Int) := by
  have hc := c.toNat_lt
  have h := (bits_nat .i64 62 (by decide) (fun n h0 h1 => by rw [IntKind.wrap_i64]; omega) (x * 256) c.toNat (by omega) (by omega)).2
  rw [show ((x : Int) * 256) = ((x * 256 : Nat) : Int) by omega, h]
  have e : x * 256 ||| c.toNat = x * 256 + c.toNat := by
    have := Nat.shiftLeft_add_eq_or_of_lt (i := 8) (b := c.toNat) hc x
    rw [Nat.shiftLeft_eq] at this
    exact this.symm
  rw [e]
theorem take_len (n : Nat) (st : List UInt8 × Bool) : (takeR n st).1.length ≤ n ∧ ((takeR n st).1 = [] ∨ (takeR n st).1.length = n) ∧ (takeR n st).2.1.length ≤ st.1.length := by
  unfold takeR
  split
  · simp
  · rename_i h
    simp only [not_or, Nat.not_lt] at h
    refine ⟨by simp; omega, .inr (by simp; omega), by simp⟩

/-- Num, as a function. -/
def numR (most : Int) (st : List UInt8 × Bool) : Int × (List UInt8 × Bool) :=
  if (val (takeR 6 st).1 : Int) > max most 0 then (0, ([], true)) else ((val (takeR 6 st).1 : Int), (takeR 6 st).2)

set_option maxHeartbeats 800000 in
theorem rnum_any (b : Nat) (most : Int) (st : List UInt8 × Bool) (w : World) (h : IsR w b st) (hs : st.1.length ≤ 1000000000000) :
    Calls Try.prog 51 #[.pointer (some ⟨b, 0, none⟩), .int .i64 most] w fun e w' => e = .returned (.int .i64 (numR most st).1) ∧ IsR w' b (numR most st).2 ∧ Ext [b] w w' := by
  go_enter Try.func51, Try.ntmps51
  go_wp2_with fail
  refine (take_any b 6 st w h (by omega) hs).mono ?_
  rintro e w1 ⟨rfl, h1, hx⟩
  have hb := h.lt
  have htl := (take_len 6 st).1
  obtain ⟨t, ht⟩ : ∃ t, t = (takeR 6 st).1 := ⟨_, rfl⟩
  rw [← ht] at htl ⊢
  obtain ⟨st1, hst⟩ : ∃ s, s = (takeR 6 st).2 := ⟨_, rfl⟩
  rw [← hst] at h1
  have HN : Hid (numR most st = if (val t : Int) > max most 0 then (0, ([], true)) else ((val t : Int), st1)) := by show _ = _; rw [ht, hst]; rfl
  clear ht hst h hs
  go_wp2_with (first | ((with_reducible refine wpl_bytes (d := some 10) 5 Try.underlying9 Try.underlying62 Try.underlying5 ⟨t.toArray⟩ ?_ ?_ ?_)))
  · rfl
  · show t.length ≤ _; unfold maxLen; omega
  intro cp w2 ho hx2 hsz
  have hx3 : Ext [b] w w2 := hx.then0 hx2
  have h2 : IsR w2 b st1 := h1.keep hx2 (by simp)
  have ho' : Own w2 5 1 (.slice (some ⟨w1.heap.size, 0, none⟩) t.length cp) t.length (bcells t) := ho
  clear ho hx hx2 h1
  obtain ⟨g, hg⟩ : ∃ g, g = w1.heap.size := ⟨_, rfl⟩
  rw [← hg] at ho' hsz ⊢
  clear hg
  go_wp2
  go_loop [5, 12] (fun x i => ∃ j : Nat, j ≤ t.length ∧ i = .int .i64 j ∧ x = .int .i64 (val (t.take j))) (fun _ i => t.length - (intOf i).toNat)
  case atStart => exact ⟨0, by omega, rfl, rfl⟩
  case round =>
    obtain ⟨j, hj, rfl, rfl⟩ := hrel
    by_cases hjt : j < t.length
    · have hcell := ho'.cell j (by omega)
      rw [Nat.zero_add, bcells, List.getElem?_map, List.getElem?_eq_getElem hjt, Option.map_some] at hcell
      have htj : Hid (val (t.take (j + 1)) = val (t.take j) * 256 + t[j].toNat) := by
        show _ = _
        rw [List.take_succ_eq_append_getElem hjt, val_snoc]
      have hvl : val (t.take j) < 281474976710656 := by
        have h1 := val_lt (t.take j)
        have h2 : 256 ^ (t.take j).length ≤ 256 ^ 6 := Nat.pow_le_pow_right (by decide) (by rw [List.length_take]; omega)
        have h3 : 256 ^ 6 = 281474976710656 := by decide
        omega
      obtain ⟨c, hcc⟩ : ∃ c, c = t[j] := ⟨_, rfl⟩
      rw [← hcc] at hcell htj
      obtain ⟨x1, hx1⟩ : ∃ x, x = val (t.take j) := ⟨_, rfl⟩
      rw [← hx1] at htj hvl ⊢
      have hcb := c.toNat_lt
      have hor := or256 x1 c hvl
      clear ho' hcc hx1
      go_wp2
      go_round
      case rel => exact ⟨j + 1, by omega, by go_num, by rw [htj.out]; go_num⟩
      case measure => simp [intOf]; omega
    · have hjt2 : j = t.length := by omega
      subst hjt2
      rw [List.take_of_length_le (Nat.le_refl _)]
      obtain ⟨x, hxx⟩ : ∃ x : Nat, x = val t := ⟨_, rfl⟩
      rw [← hxx] at HN ⊢
      clear ho' hxx
      by_cases hm : (x : Int) > max most 0
      · have HN2 : Hid (numR most st = (0, ([], true))) := by show _ = _; rw [HN.out, if_pos hm]
        go_wp2_with fail
        refine (fail_any b _ _ h2).mono ?_
        rintro e w3 ⟨rfl, h3, hx4⟩
        have hx5 : Ext [b] w w3 := hx3.trans hx4 (by simp)
        clear hx3 hx4 h2
        go_wp2
        go_ret
        rw [HN2.out]
        exact ⟨rfl, h3, hx5⟩
      · have HN2 : Hid (numR most st = ((x : Int), st1)) := by show _ = _; rw [HN.out, if_neg hm]
        go_wp2
        go_ret
        rw [HN2.out]
        exact ⟨rfl, h2, hx3⟩

/-- Text, as a function. -/
def textR (most : Int) (st : List UInt8 × Bool) : List UInt8 × (List UInt8 × Bool) :=
  if (takeR 2 st).1 = [] then ([], (takeR 2 st).2)
  else if (val (takeR 2 st).1 : Int) > most then ([], ([], true))
  else takeR (val (takeR 2 st).1) (takeR 2 st).2

theorem or256c (c d : UInt8) : bits .or .i64 ((c.toNat : Int) * 256) (d.toNat : Int) = ((val [c, d] : Nat) : Int) := by
  rw [or256 c.toNat d (by have := c.toNat_lt; omega)]
  simp [val]

set_option maxHeartbeats 800000 in
theorem rtext_any (b : Nat) (most : Int) (st : List UInt8 × Bool) (w : World) (h : IsR w b st) (hs : st.1.length ≤ 1000000000000) :
    Calls Try.prog 52 #[.pointer (some ⟨b, 0, none⟩), .int .i64 most] w fun e w' => e = .returned (str (textR most st).1) ∧ IsR w' b (textR most st).2 ∧ Ext [b] w w' := by
  go_enter Try.func52, Try.ntmps52
  go_wp2_with fail
  refine (take_any b 2 st w h (by omega) hs).mono ?_
  rintro e w1 ⟨rfl, h1, hx⟩
  have hb := h.lt
  have htl := take_len 2 st
  obtain ⟨t, ht⟩ : ∃ t, t = (takeR 2 st).1 := ⟨_, rfl⟩
  rw [← ht] at htl ⊢
  obtain ⟨st1, hst⟩ : ∃ s, s = (takeR 2 st).2 := ⟨_, rfl⟩
  rw [← hst] at h1 htl
  have HN : Hid (textR most st = if t = [] then ([], st1) else if (val t : Int) > most then ([], ([], true)) else takeR (val t) st1) := by show _ = _; rw [ht, hst]; rfl
  clear ht hst h
  by_cases hte : t = []
  · have HN2 : Hid (textR most st = ([], st1)) := by show _ = _; rw [HN.out, if_pos hte]
    subst hte
    go_wp2
    go_ret
    rw [HN2.out]
    exact ⟨rfl, h1, hx⟩
  · have h2 : t.length = 2 := htl.2.1.resolve_left hte
    have hst1 := htl.2.2
    obtain ⟨c, d, hcd⟩ : ∃ c d, t = [c, d] := by
      match t, h2 with
      | [c, d], _ => exact ⟨c, d, rfl⟩
    have HN2 : Hid (textR most st = if (val [c, d] : Int) > most then ([], ([], true)) else takeR (val [c, d]) st1) := by
      show _ = _; rw [HN.out, if_neg hte, hcd]
    subst hcd
    clear HN htl hte h2
    have hor := or256c c d
    have hv : val [c, d] ≤ 65535 := by
      have := val_lt [c, d]
      simp at this; omega
    obtain ⟨v, hvv⟩ : ∃ v, v = val [c, d] := ⟨_, rfl⟩
    rw [← hvv] at hor hv HN2
    clear hvv
    have hc := c.toNat_lt
    have hd := d.toNat_lt
    have i0 : ∀ W, (Instr.index 9 (str [c, d]) (.int .i64 0)).run Try.prog W = .ok (.int .u8 (c.toNat : Int)) W := fun W => by rw [run_index_string _ _ _ _ _ Try.underlying9]; rfl
    have i1 : ∀ W, (Instr.index 9 (str [c, d]) (.int .i64 1)).run Try.prog W = .ok (.int .u8 (d.toNat : Int)) W := fun W => by rw [run_index_string _ _ _ _ _ Try.underlying9]; rfl
    have e1 : wrap64 (c.toNat : Int) = c.toNat := IntWalk.wrap64_in _ (by omega)
    have e2 : wrap64 (d.toNat : Int) = d.toNat := IntWalk.wrap64_in _ (by omega)
    have e3 : wrap64 ((c.toNat : Int) * 256) = (c.toNat : Int) * 256 := IntWalk.wrap64_in _ (by omega)
    go_wp2
    go_quiet (fail)
    clear i0 i1 e1 e2 e3 hor
    have h1' : ∀ n, IsR (w1.drewN n) b st1 := fun _ => h1
    have hx' : ∀ n, Ext [b] w (w1.drewN n) := fun n => ⟨hx.os, hx.tape, hx.output, hx.size, hx.block⟩
    clear h1 hx
    by_cases hm : (v : Int) > most
    · have HN3 : Hid (textR most st = ([], ([], true))) := by show _ = _; rw [HN2.out, if_pos hm]
      go_wp2_with fail
      refine (fail_any b _ _ (h1' _)).mono ?_
      rintro e w2 ⟨rfl, h2, hx2⟩
      have hx3 : Ext [b] w w2 := (hx' _).trans hx2 (by simp)
      clear h1' hx' hx2
      go_wp2_with fail
      refine (take_any b v ([], true) _ h2 (by omega) (by simp)).mono ?_
      rintro e w3 ⟨rfl, h3, hx4⟩
      have hx5 : Ext [b] w w3 := hx3.trans hx4 (by simp)
      have e1 : takeR v ([], true) = ([], ([], true)) := if_pos (.inl rfl)
      rw [e1] at h3 ⊢
      clear hx3 hx4 h2 e1
      go_wp2
      go_ret
      rw [HN3.out]
      exact ⟨rfl, h3, hx5⟩
    · have HN3 : Hid (textR most st = takeR v st1) := by show _ = _; rw [HN2.out, if_neg hm]
      go_wp2_with fail
      refine (take_any b v st1 _ (h1' _) (by omega) (by omega)).mono ?_
      rintro e w3 ⟨rfl, h3, hx4⟩
      have hx5 : Ext [b] w w3 := (hx' _).trans hx4 (by simp)
      clear h1' hx' hx4
      go_wp2
      go_ret
      rw [HN3.out]
      exact ⟨rfl, h3, hx5⟩

theorem rok_any (b : Nat) (st : List UInt8 × Bool) (w : World) (h : IsR w b st) :
    Calls Try.prog 63 #[.pointer (some ⟨b, 0, none⟩)] w fun e w' => e = .returned (.bool !st.2) ∧ w = w' := by
  obtain ⟨s, bad⟩ := st
  have c1 := h.c1
  go_enter Try.func63, Try.ntmps63
  go_wp2
  go_ret
  exact ⟨rfl, rfl⟩
theorem rok_nil (w : World) :
    Calls Try.prog 63 #[.pointer none] w fun e w' => e = .returned (.bool false) ∧ w = w' := by
  go_enter Try.func63, Try.ntmps63
  go_wp2
  go_ret
  exact ⟨rfl, rfl⟩

/-- Done, as a function: 0 or ErrForm. -/
def doneR (st : List UInt8 × Bool) : Int := if st.2 = false ∧ st.1 = [] then 0 else 2
theorem rdone_any (b : Nat) (st : List UInt8 × Bool) (w : World) (h : IsR w b st) :
    Calls Try.prog 53 #[.pointer (some ⟨b, 0, none⟩)] w fun e w' => e = .returned (.int .i64 (doneR st)) ∧ w = w' := by
  have hok := rok_any b st w h
  obtain ⟨s, bad⟩ := st
  have c0 := h.c0
  cases bad
  · cases s with
    | nil =>
      go_enter Try.func53, Try.ntmps53
      go_wp2_with fail
      refine hok.mono ?_
      rintro e w1 ⟨rfl, rfl⟩
      clear hok h
      go_wp2
      go_ret
      exact ⟨rfl, rfl⟩
    | cons a l =>
      have e1 : doneR (a :: l, false) = 2 := by simp [doneR]
      rw [e1]
      go_enter Try.func53, Try.ntmps53
      go_wp2_with fail
      refine hok.mono ?_
      rintro e w1 ⟨rfl, rfl⟩
      clear hok h e1
      go_wp2
      go_ret
      exact ⟨rfl, rfl⟩
  · have e1 : doneR (s, true) = 2 := by simp [doneR]
    rw [e1]
    go_enter Try.func53, Try.ntmps53
    go_wp2_with fail
    refine hok.mono ?_
    rintro e w1 ⟨rfl, rfl⟩
    clear hok h e1
    go_wp2
    go_ret
    exact ⟨rfl, rfl⟩
theorem rdone_nil (w : World) :
    Calls Try.prog 53 #[.pointer none] w fun e w' => e = .returned (.int .i64 2) ∧ w = w' := by
  go_enter Try.func53, Try.ntmps53
  go_wp2_with fail
  refine (rok_nil w).mono ?_
  rintro e w1 ⟨rfl, rfl⟩
  go_wp2
  go_ret
  exact ⟨rfl, rfl⟩
end Go.Proofs.Ytmjgbkepngeckaa
