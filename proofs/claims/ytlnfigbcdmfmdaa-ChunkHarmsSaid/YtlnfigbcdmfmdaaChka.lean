/- Package chunk and its statements: Text, slices.Equal, right, block. -/
import Derived.Test.YtlnfigbcdmfmdaaChkLaw
import Derived.Test.YtlnfigbcdmfmdaaSum
import Derived.Test.YtlnfigbcdmfmdaaSlotr
import Derived.Test.YtlnfigbcdmfmdaaHeld
import Derived.Test.YtlnfigbcdmfmdaaRow
namespace Go.Proofs.Ytlnfigbcdmfmdaa
open Go.RowKit
set_option linter.unusedVariables false
set_option linter.unusedSimpArgs false

def u32c (x : BitVec 32) : Value := .int .u32 (u32v x)
theorem el_sums : Elem Try.prog 40 35 (.int .u32 0) 1 4 := Elem.mk' Try.underlying40 rfl (by kernel_rfl)
theorem el_strs : Elem Try.prog 31 9 (.string ByteArray.empty) 1 16 := Elem.mk' Try.underlying31 rfl (by kernel_rfl)
theorem u32c_cells (l : List (BitVec 32)) : ∀ u ∈ l.map u32c, u.oneCell' = true := by
  intro u hu
  obtain ⟨x, _, rfl⟩ := List.mem_map.1 hu
  rfl
theorem strs_cells (l : List (List UInt8)) : ∀ u ∈ l.map str, u.oneCell' = true := by
  intro u hu
  obtain ⟨x, _, rfl⟩ := List.mem_map.1 hu
  rfl
def Text7 (n : Int) (w : World) (e : Ending) (w' : World) : Prop := ∃ t, e = .returned (str t) ∧ (t.length : Int) = max n 0 ∧ Ext [] w w'
theorem Text7.mk {n : Int} {w w' : World} {t : List UInt8} (h : (t.length : Int) = max n 0) (hx : Ext [] w w') : Text7 n w (.returned (.string ⟨t.toArray⟩)) w' := ⟨t, rfl, h, hx⟩
theorem byte_ex (E : Int) (h0 : 0 ≤ E) (h1 : E ≤ 255) : ∃ c : UInt8, E = (c.toNat : Int) := ⟨UInt8.ofNat E.toNat, by rw [ofNat_toNat_int]; omega⟩
set_option maxRecDepth 100000 in
set_option maxHeartbeats 800000 in
theorem text7_any (n seed : Int) (w : World) (hn : n ≤ 1000000) :
    Calls Try.prog 11 #[.int .i64 n, .int .i64 seed] w (Text7 n w) := by
  go_enter Try.func11, Try.ntmps11
  obtain ⟨W, hW⟩ : ∃ W, W = w.alloc (.cells #[] 5) := ⟨_, rfl⟩
  have ho0 : Own W 5 1 (.slice (some ⟨w.heap.size, 0, none⟩) 0 0) 0 (bcells []) := by rw [hW]; exact Own.lit w #[] 5 1 0 rfl (by unfold maxLen; omega)
  have hxW : Ext [] w W := by rw [hW]; exact (Ext.refl _ _).alloc _
  go_wp2
  rw [← hW]
  clear hW
  have hb0 : 0 ≤ (seed % 4294967296 * 2654435761 % 4294967296 + 12345) % 4294967296 ∧ (seed % 4294967296 * 2654435761 % 4294967296 + 12345) % 4294967296 < 4294967296 := by omega
  generalize (seed % 4294967296 * 2654435761 % 4294967296 + 12345) % 4294967296 = s3 at hb0 ⊢
  generalize seed % 4294967296 * 2654435761 % 4294967296 = s2
  generalize seed % 4294967296 = s1
  go_loopw [5, 6, 7] (fun u5 u6 u7 wr => ∃ (k : Nat) (x : Int) (t : List UInt8), u7 = .int .i64 (k : Int) ∧ (k : Int) ≤ max n 0 ∧ u6 = .int .u32 x ∧ 0 ≤ x ∧ x < 4294967296 ∧ t.length = k ∧ Own wr 5 1 u5 k (bcells t) ∧ Ext [] w wr ∧ (∀ z ∈ vblocks u5, w.heap.size ≤ z)) (fun _ _ u7 _ => (n - intOf u7).toNat)
  case atStart =>
    refine ⟨0, _, [], rfl, by omega, rfl, ?_, ?_, rfl, ho0, hxW, by simp [vblocks]⟩
    all_goals omega
  case round =>
    clear ho0 hxW hb0
    obtain ⟨k, x, t, rfl, hk, rfl, hx0, hx1, hl, ho, hx, hv⟩ := hrel
    by_cases hlt : (k : Int) < n
    · have hk9 : k ≤ 1000000 := by omega
      have hx2 : 0 ≤ (x * 1664525 + 1013904223) % 4294967296 ∧ (x * 1664525 + 1013904223) % 4294967296 < 4294967296 := by omega
      obtain ⟨y, hy⟩ : ∃ y, (x * 1664525 + 1013904223) % 4294967296 = y := ⟨_, rfl⟩
      rw [hy] at hx2
      obtain ⟨c, hc⟩ := byte_ex (y / 16777216) (by omega) (by omega)
      go_wp2_with (first | ((with_reducible refine wpl_append (d := some 26) 5 (.int .u8 0) 1 1 el_bytes _ _ _ ?_ (ho.alloc _) (.slice (some ⟨wr.heap.size, 0, none⟩) 1 1) 1 (bcells [c]) ?_ ?_ (bcells_one _) ?_ ?_ ?_)))
      · rfl
      · rfl
      · exact Rd.byte rfl
      · omega
      · unfold maxLen; omega
      · intro v' w' ho' hx' hv' _
        have hs := hx.size
        have hx3 : Ext [] w w' := (hx.alloc _).trans hx' (fun z hz => .inr (hv z hz))
        have hv2 : ∀ z ∈ vblocks v', w.heap.size ≤ z := by
          intro z hz
          rcases hv' with h | h
          · exact hv z (h ▸ hz)
          · rw [h] at hz; simp at hz; omega
        rw [← bcells_append] at ho'
        clear hx' hv' ho hx hv hc hy
        go_wp2
        go_roundw
        case rel => exact ⟨k + 1, _, t ++ [c], by go_num, by omega, rfl, by omega, by omega, by simp [hl], ho', hx3, hv2⟩
        case measure => simp [intOf]; omega
    · have HL : Hid ((t.length : Int) = max n 0) := Hid.of (by omega)
      have hs := OwnB.str (w := wr) (v := u5) (l := t) (by unfold OwnB; rw [hl]; exact ho)
      clear ho hl
      go_wp2
      go_ret
      exact Text7.mk HL.out hx

set_option maxHeartbeats 800000 in
theorem equal_any (a1 a2 : Option Addr) (n1 c1 n2 c2 : Nat) (xs ys : List (BitVec 32)) (w : World) (h1 : Rd w 1 (.slice a1 n1 c1) xs.length (xs.map u32c)) (h2 : Rd w 1 (.slice a2 n2 c2) ys.length (ys.map u32c)) :
    Calls Try.prog 44 #[.slice a1 n1 c1, .slice a2 n2 c2] w fun e w' => e = .returned (.bool (decide (xs = ys))) ∧ Ext [] w w' := by
  obtain ⟨e1, -, g1, -⟩ := h1.len
  obtain ⟨e2, -, g2, -⟩ := h2.len
  have b1 := h1.len.2.1
  have b2 := h2.len.2.1
  unfold maxLen at g1 g2
  subst e1
  subst e2
  by_cases hl : xs.length = ys.length
  · have HD : Hid (∀ k, k = xs.length → xs.take k = ys.take k → decide (xs = ys) = true) := Hid.of (fun k hk h => by
      subst hk
      rw [List.take_length, hl, List.take_length] at h
      exact decide_eq_true h)
    have HN : Hid (∀ k (hk : k < xs.length), xs[k] ≠ ys[k]'(by omega) → decide (xs = ys) = false) := Hid.of (fun k hk h => by
      apply decide_eq_false
      rintro rfl
      exact h rfl)
    generalize decide (xs = ys) = r at HD HN ⊢
    have HL := Hid.of hl
    have hl2 : (ys.length : Int) = xs.length := by omega
    have hlm : (xs.length : Int) ≤ 9223372036854775807 := by omega
    go_enter Try.func44, Try.ntmps44
    go_wp2
    go_loopw [13] (fun u13 wr => ∃ k : Nat, u13 = .int .i64 (k : Int) ∧ k ≤ xs.length ∧ Hid (xs.take k = ys.take k) ∧ Hid (Ext [] w wr)) (fun u13 _ => xs.length - (intOf u13).toNat)
    case atStart => exact ⟨0, rfl, by omega, rfl, Ext.refl _ _⟩
    case round =>
      obtain ⟨k, rfl, hk, hT, hX⟩ := hrel
      by_cases hlt : k < xs.length
      · obtain ⟨p1, o1, rfl, hb1, hc1⟩ := h1.view (by omega)
        obtain ⟨p2, o2, rfl, hb2, hc2⟩ := h2.view (by omega)
        have d1 : wr.cell? ⟨p1, o1 + k, none⟩ = some (u32c xs[k]) := hX.out.cell (p := ⟨p1, o1 + k, none⟩) (by simp) (hc1 k _ (by rw [List.getElem?_map, List.getElem?_eq_getElem hlt]; rfl))
        have d2 : wr.cell? ⟨p2, o2 + k, none⟩ = some (u32c (ys[k]'(by omega))) := hX.out.cell (p := ⟨p2, o2 + k, none⟩) (by simp) (hc2 k _ (by rw [List.getElem?_map, List.getElem?_eq_getElem (by omega)]; rfl))
        have HTK : Hid (xs[k] = (ys[k]'(by omega)) → xs.take (k + 1) = ys.take (k + 1)) := Hid.of (fun h => by rw [List.take_succ_eq_append_getElem hlt, List.take_succ_eq_append_getElem (by omega), hT.out, h])
        have HNK := Hid.of (HN.out k hlt)
        clear HN HD
        have HU := Hid.of (@u32v_inj xs[k] (ys[k]'(by omega)))
        obtain ⟨x, hx⟩ : ∃ x, x = xs[k] := ⟨_, rfl⟩
        obtain ⟨y, hy⟩ : ∃ y, y = (ys[k]'(by omega)) := ⟨_, rfl⟩
        rw [← hx] at d1 HTK HNK HU
        rw [← hy] at d2 HTK HNK HU
        unfold u32c at d1 d2
        clear hx hy hc1 hc2 h1 h2
        obtain ⟨a, ha⟩ : ∃ a, a = u32v x := ⟨_, rfl⟩
        obtain ⟨b, hb⟩ : ∃ b, b = u32v y := ⟨_, rfl⟩
        rw [← ha] at d1 HU
        rw [← hb] at d2 HU
        clear ha hb
        go_wp2_with fail
        go_quiet (fail)
        by_cases hab : a = b
        · have HE := Hid.of (HU.out.1 hab)
          subst hab
          go_wp2
          go_roundw
          case rel => exact ⟨k + 1, by go_num, by omega, HTK.out HE.out, hX.out.drewN nq⟩
          case measure => simp [intOf]; omega
        · have HE := Hid.of (HNK.out (fun h => hab (HU.out.2 h)))
          have hne : (a == b) = false := by simp [hab]
          go_wp2
          go_ret
          exact ⟨by rw [HE.out]; rfl, hX.out.drewN nq⟩
      · have hkl : k = xs.length := by omega
        have HE := Hid.of (HD.out k hkl (by exact hT.out))
        go_wp2
        go_ret
        exact ⟨by rw [HE.out]; rfl, hX.out⟩
  · have HE : Hid (decide (xs = ys) = false) := Hid.of (decide_eq_false (fun h => hl (by rw [h])))
    generalize decide (xs = ys) = r at HE ⊢
    have hl2 : ((xs.length : Int) == (ys.length : Int)) = false := by simp; omega
    go_enter Try.func44, Try.ntmps44
    go_wp2
    go_ret
    exact ⟨by rw [HE.out]; rfl, Ext.refl _ _⟩

/-- A list's value; its checksums lie in the slice sv. -/
def lsv (l : Ls) (sv : Value) : Value := .agg #[.int .i64 l.idx, .int .i64 l.term, .int .i64 l.bytes, sv]
def Sums (w : World) (sv : Value) (xs : List (BitVec 32)) : Prop := Rd w 1 sv xs.length (xs.map u32c)
theorem Sums.keep {w w' : World} {sv : Value} {xs : List (BitVec 32)} {F : List Nat} (h : Sums w sv xs) (hx : Ext F w w') (hF : ∀ k ∈ vblocks sv, k ∉ F) : Sums w' sv xs := Rd.keep h hx hF
theorem Sums.keep0 {w w' : World} {sv : Value} {xs : List (BitVec 32)} (h : Sums w sv xs) (hx : Ext [] w w') : Sums w' sv xs := Rd.keep h hx (by simp)
/-- What the list's numbers are. -/
def Ls.wf (l : Ls) : Prop := (-9223372036854775808 ≤ l.idx ∧ l.idx ≤ 9223372036854775807) ∧ (-9223372036854775808 ≤ l.term ∧ l.term ≤ 9223372036854775807) ∧ (0 ≤ l.bytes ∧ l.bytes ≤ 1000000000000)
set_option maxHeartbeats 1600000 in
theorem right_any (l : Ls) (sv : Value) (w : World) (hs : Sums w sv l.sums) (hb : 0 ≤ l.bytes ∧ l.bytes ≤ 1000000000000) :
    Calls Try.prog 38 #[lsv l sv] w fun e w' => e = .returned (.bool (decide l.right)) ∧ Ext [] w w' := by
  obtain ⟨a, cap, rfl⟩ := Rd.isSlice hs
  obtain ⟨-, b1, b2, -⟩ := Rd.len hs
  clear hs
  have hxz : ∀ a b c d : Value, Ext [] w (w.alloc (.cells #[a, b, c, d] 42)) := fun a b c d => (Ext.refl _ _).alloc _
  have hcs : (decide l.right = true ∧ 1 ≤ l.idx ∧ l.idx ≤ 1099511627776 ∧ 1 ≤ l.term ∧ l.term ≤ 1099511627776 ∧ (l.sums.length : Int) ≤ 64 ∧ (l.sums.length : Int) = (l.bytes + 399) / 400) ∨
    (decide l.right = false ∧ (l.idx < 1 ∨ (1 ≤ l.idx ∧ 1099511627776 < l.idx) ∨ (1 ≤ l.idx ∧ l.idx ≤ 1099511627776 ∧ l.term < 1) ∨ (1 ≤ l.idx ∧ l.idx ≤ 1099511627776 ∧ 1 ≤ l.term ∧ 1099511627776 < l.term) ∨ (1 ≤ l.idx ∧ l.idx ≤ 1099511627776 ∧ 1 ≤ l.term ∧ l.term ≤ 1099511627776 ∧ 64 < (l.sums.length : Int)) ∨
      (1 ≤ l.idx ∧ l.idx ≤ 1099511627776 ∧ 1 ≤ l.term ∧ l.term ≤ 1099511627776 ∧ (l.sums.length : Int) ≤ 64 ∧ (l.sums.length : Int) ≠ (l.bytes + 399) / 400))) := by
    by_cases hr : l.right
    · left
      rw [decide_eq_true hr]
      unfold Ls.right at hr
      exact ⟨rfl, by omega⟩
    · right
      rw [decide_eq_false hr]
      unfold Ls.right at hr
      exact ⟨rfl, by omega⟩
  generalize decide l.right = R at hcs ⊢
  obtain ⟨i, t, n, s⟩ := l
  simp only at hb hcs b1
  unfold lsv
  simp only
  obtain ⟨m, hm⟩ : ∃ m, m = s.length := ⟨_, rfl⟩
  rw [← hm] at hcs b1 ⊢
  clear hm
  have hq : (n + 399).tdiv 400 = (n + 399) / 400 := Int.tdiv_eq_ediv_of_nonneg (by omega)
  obtain ⟨hb0, hb1⟩ := hb
  rcases hcs with ⟨rfl, g1, g2, g3, g4, g5, g6⟩ | ⟨rfl, g⟩
  · have e7 : ((m : Int) == (n + 400 - 1) / 400) = true := by simp; omega
    clear g6
    go_enter Try.func38, Try.ntmps38
    go_wp2
    go_ret
    exact ⟨by first | rfl | (rw [e7]; rfl), hxz _ _ _ _⟩
  · rcases g with g | ⟨g1, g⟩ | ⟨g1, g2, g⟩ | ⟨g1, g2, g3, g⟩ | ⟨g1, g2, g3, g4, g⟩ | ⟨g1, g2, g3, g4, g5, g⟩
    case inr.inr.inr.inr.inr =>
      have e7 : ((m : Int) == (n + 400 - 1) / 400) = false := by simp; omega
      clear g
      go_enter Try.func38, Try.ntmps38
      go_wp2
      go_ret
      exact ⟨by first | rfl | (rw [e7]; rfl), hxz _ _ _ _⟩
    all_goals (
      go_enter Try.func38, Try.ntmps38
      go_wp2
      go_ret
      exact ⟨rfl, hxz _ _ _ _⟩)
end Go.Proofs.Ytlnfigbcdmfmdaa
