/- Package chunk: Hurt, Data, List. Package chunk: List. -/
import Derived.Test.YtlnfigbcdmfmdaaChkh
namespace Go.Proofs.Ytlnfigbcdmfmdaa
open Go.RowKit
set_option linter.unusedVariables false
set_option linter.unusedSimpArgs false

theorem el_ints7 : Elem Try.prog 51 3 (.int .i64 0) 1 8 := Elem.mk' Try.underlying51 rfl (by kernel_rfl)
def Sto.hurtN (s : Sto) (V : Int → Sl) (m : Nat) : List Int := ((List.range m).filter fun k : Nat => decide (s.chE V (k : Int) = 6)).map fun k : Nat => (k : Int)
theorem Sto.hurtN_succ (s : Sto) (V : Int → Sl) (m : Nat) : s.hurtN V (m + 1) = if s.chE V m = 6 then s.hurtN V m ++ [(m : Int)] else s.hurtN V m := by
  unfold Sto.hurtN
  rw [List.range_succ, List.filter_append, List.map_append]
  by_cases h : s.chE V m = 6
  · rw [if_pos h]; simp [h]
  · rw [if_neg h]; simp [h]
theorem Sto.hurtN_len (s : Sto) (V : Int → Sl) (m : Nat) : (s.hurtN V m).length ≤ m := by
  unfold Sto.hurtN
  rw [List.length_map]
  exact Nat.le_trans (List.length_filter_le _ _) (by simp)
def Sto.hurt (s : Sto) (V : Int → Sl) : List Int := s.hurtN V s.list.sums.length
/-- Data, round by round. -/
def Sto.dataN (s : Sto) (V : Int → Sl) : Nat → List UInt8 × Int
  | 0 => ([], 0)
  | k + 1 => if (s.dataN V k).2 ≠ 0 then s.dataN V k else if s.chE V k ≠ 0 then ([], s.chE V k) else ((s.dataN V k).1 ++ s.chV V k, 0)
theorem Sto.dataN_stop (s : Sto) (V : Int → Sl) (k : Nat) (h : (s.dataN V k).2 ≠ 0) : ∀ m, k ≤ m → s.dataN V m = s.dataN V k := by
  intro m hm
  induction m with
  | zero => obtain rfl : k = 0 := by omega
            rfl
  | succ m ih =>
    by_cases e : k = m + 1
    · rw [e]
    · have := ih (by omega)
      rw [Sto.dataN, this, if_pos h]
theorem Sto.dataN_one (s : Sto) (V : Int → Sl) (k : Nat) (h : (s.dataN V k).2 = 0) : s.dataN V (k + 1) = if s.chE V k ≠ 0 then ([], s.chE V k) else ((s.dataN V k).1 ++ s.chV V k, 0) := by
  rw [Sto.dataN, if_neg (by rw [h]; simp)]
def Sto.data (s : Sto) (V : Int → Sl) : List UInt8 × Int := if s.area < 0 then ([], 7) else s.dataN V s.list.sums.length
/-- A list of numbers handed back, in a row of the call's own. -/
def IntsNew (w : World) (l : List Int) (e : Ending) (w' : World) : Prop := ∃ v, e = .returned v ∧ Own w' 3 1 v l.length (l.map (Value.int .i64)) ∧ Ext [] w w' ∧ ∀ z ∈ vblocks v, w.heap.size ≤ z
theorem hurt_nil7 (w : World) : Calls Try.prog 31 #[.pointer none] w (IntsNew w []) := by
  go_enter Try.func31, Try.ntmps31
  go_wp2
  go_ret
  exact ⟨.slice none 0 0, rfl, Own.nil _ _ _, Ext.refl _ _, by simp [vblocks]⟩
theorem data_nil7 (w : World) : Calls Try.prog 26 #[.pointer none] w fun e w' => e = .returned (.tuple #[.string ⟨#[]⟩, .int .i64 7]) ∧ Ext [] w w' := by
  go_enter Try.func26, Try.ntmps26
  go_wp2
  go_ret2
  exact ⟨rfl, Ext.refl _ _⟩
section
variable {w0 w : World} {q b : Nat} {sv : Value} {D : Dv} {s : Sto} {n : Int} {O : List Nat} {V : Int → Sl}
set_option maxHeartbeats 3200000 in
theorem StM.hurt7 (h : StM w0 w q b sv D s n O) (hf : Fine D n V 0) : Calls Try.prog 31 #[.pointer (some ⟨q, 0, none⟩)] w (IntsNew w (s.hurt V)) := by
  obtain ⟨-, -, -, -, -, -, c6⟩ := h.blk.cells
  obtain ⟨a, cap, rfl⟩ := Rd.isSlice h.sums
  have hlen := h.ok.len.1
  have cc := fun w' (hx : Ext [] w w') k => (h.keep hx).chunk hf k
  unfold ChPost at cc
  have HU : Hid (∀ m, s.hurtN V (m + 1) = if s.chE V m = 6 then s.hurtN V m ++ [(m : Int)] else s.hurtN V m) := Hid.of (s.hurtN_succ V)
  have HL : Hid (∀ m, (s.hurtN V m).length ≤ m) := Hid.of (s.hurtN_len V)
  have HE : Hid (s.hurt V = s.hurtN V s.list.sums.length) := Hid.of rfl
  have H0 : Hid (s.hurtN V 0 = []) := Hid.of rfl
  have HC := Hid.of (fun k => s.chE_cases V k)
  generalize s.hurt V = hl at HE ⊢
  generalize s.hurtN V = hN at HU HL HE H0
  generalize s.list.sums.length = m at c6 hlen HE
  have hl9 : (m : Int) ≤ 64 := by omega
  clear h
  go_enter Try.func31, Try.ntmps31
  go_wp2
  go_loopw [3, 15] (fun u3 u15 wr => ∃ k : Nat, u15 = .int .i64 (k : Int) ∧ k ≤ m ∧ Own wr 3 1 u3 (hN k).length ((hN k).map (Value.int .i64)) ∧ (∀ z ∈ vblocks u3, w.heap.size ≤ z) ∧ Ext [] w wr) (fun _ u15 _ => m - (intOf u15).toNat)
  case atStart => exact ⟨0, rfl, by omega, by rw [H0.out]; exact Own.nil _ _ _, by simp [vblocks], Ext.refl _ _⟩
  case round =>
    obtain ⟨k, rfl, hk, ho, hv, hx⟩ := hrel
    by_cases hlt : k < m
    · have cck := cc wr hx k
      have hUk := Hid.of (HU.out k)
      have hLk := HL.out k
      have hCk := HC.out k
      generalize s.chE V k = E at cck hUk hCk
      generalize s.chV V k = dv at cck
      go_wp2_with fail
      refine cck.mono ?_
      rintro e w2 ⟨rfl, hx2⟩
      have ho2 := ho.keep hx2 (by simp)
      have hxw2 := hx.then0 hx2
      clear ho hx hx2 cck
      by_cases h6 : E = 6
      · subst h6
        have hUk2 := Hid.of (hUk.out.trans (if_pos rfl))
        clear hUk hCk
        go_wp2_with (first | ((with_reducible refine wpl_append (d := some 29) 3 (.int .i64 0) 1 8 el_ints7 _ _ _ ?_ (ho2.alloc _) (.slice (some ⟨w2.heap.size, 0, none⟩) 1 1) 1 ([(k : Int)].map (Value.int .i64)) ?_ ?_ (icells_one _ _) ?_ ?_ ?_)))
        all_goals try rfl
        · exact Rd.lit w2 #[.int .i64 (k : Int)] 3 1 1 rfl (by unfold maxLen; omega)
        · omega
        · unfold maxLen; omega
        · intro v' w3 ho' hx' hv' _
          have hs := hxw2.size
          have hx3 : Ext [] w w3 := (hxw2.alloc _).trans hx' (fun z hz => .inr (hv z hz))
          have hv3 : ∀ z ∈ vblocks v', w.heap.size ≤ z := by
            intro z hz
            rcases hv' with h | h
            · exact hv z (h ▸ hz)
            · rw [h] at hz; simp at hz; omega
          have ho3 : Own w3 3 1 v' (hN (k + 1)).length ((hN (k + 1)).map (Value.int .i64)) := by
            rw [hUk2.out, List.length_append, List.map_append]
            exact ho'
          clear ho' hx' hv' ho2 hxw2 hv
          go_wp2
          go_roundw
          case rel => exact ⟨k + 1, by go_num, by omega, ho3, hv3, hx3⟩
          case measure => simp [intOf]; omega
      · have hUk2 := Hid.of (hUk.out.trans (if_neg h6))
        have h6b : (E == 6) = false := by simp [h6]
        clear hUk hCk
        go_wp2
        go_roundw
        case rel => exact ⟨k + 1, by go_num, by omega, by rw [hUk2.out]; exact ho2, hv, hxw2⟩
        case measure => simp [intOf]; omega
    · have hkm : Hid (hl = hN k) := Hid.of (by rw [HE.out]; congr 1; omega)
      go_wp2
      go_ret
      refine ⟨u3, rfl, ?_, hx, hv⟩
      rw [hkm.out]
      exact ho
theorem chV_len (hok : StOk s n) (hf : Fine D n V 0) (k : Int) : (s.chV V k).length ≤ 488 := by
  unfold Sto.chV
  split
  · rename_i h
    have hk : ¬ (s.area < 0 ∨ k < 0 ∨ (s.list.sums.length : Int) ≤ k) := fun hh => by unfold Sto.chE at h; rw [if_pos hh] at h; cases h
    have h1 := hok.base
    have h2 := hok.fit
    have h3 := hok.area
    have h4 := hok.len.1
    have hB : s.b s.area (2 + k) = s.base + s.area * 66 + (2 + k) := rfl
    exact hf.dlen (by omega) (by omega)
  · simp
set_option maxHeartbeats 3200000 in
theorem StM.data7 (h : StM w0 w q b sv D s n O) (hf : Fine D n V 0) : Calls Try.prog 26 #[.pointer (some ⟨q, 0, none⟩)] w fun e w' => e = .returned (.tuple #[str (s.data V).1, .int .i64 (s.data V).2]) ∧ Ext [] w w' := by
  obtain ⟨-, -, c2, -, -, -, c6⟩ := h.blk.cells
  obtain ⟨a, cap, rfl⟩ := Rd.isSlice h.sums
  have hlen := h.ok.len.1
  have cc := fun w' (hx : Ext [] w w') k => (h.keep hx).chunk hf k
  unfold ChPost at cc
  have HVL := Hid.of (fun k : Nat => chV_len h.ok hf k)
  by_cases har : s.area < 0
  · have HE : Hid (s.data V = ([], 7)) := Hid.of (by unfold Sto.data; rw [if_pos har])
    generalize s.data V = dt at HE ⊢
    generalize s.area = ar at c2 har
    clear h cc
    go_enter Try.func26, Try.ntmps26
    go_wp2
    go_ret2
    exact ⟨by rw [HE.out]; rfl, Ext.refl _ _⟩
  · have HE : Hid (s.data V = s.dataN V s.list.sums.length) := Hid.of (by unfold Sto.data; rw [if_neg har])
    have HS : Hid (∀ k, (s.dataN V k).2 ≠ 0 → ∀ m, k ≤ m → s.dataN V m = s.dataN V k) := Hid.of (s.dataN_stop V)
    have HO : Hid (∀ k : Nat, (s.dataN V k).2 = 0 → s.dataN V (k + 1) = if s.chE V k ≠ 0 then ([], s.chE V k) else ((s.dataN V k).1 ++ s.chV V k, 0)) := Hid.of (s.dataN_one V)
    have H0 : Hid (s.dataN V 0 = ([], 0)) := Hid.of rfl
    generalize s.data V = dt at HE ⊢
    generalize s.dataN V = dN at HE HS HO H0
    generalize s.list.sums.length = m at c6 hlen HE
    generalize s.area = ar at c2 har
    have hl9 : (m : Int) ≤ 64 := by omega
    clear h
    have har2 : decide (ar < 0) = false := decide_eq_false har
    go_enter Try.func26, Try.ntmps26
    go_wp2
    go_loopw [4, 23] (fun u4 u23 wr => ∃ (k : Nat) (d : List UInt8), u23 = .int .i64 (k : Int) ∧ k ≤ m ∧ u4 = str d ∧ d.length ≤ 488 * k ∧ Hid (dN k = (d, 0)) ∧ Hid (Ext [] w wr)) (fun _ u23 _ => m - (intOf u23).toNat)
    case atStart => exact ⟨0, [], rfl, by omega, rfl, by simp, H0.out, Ext.refl _ _⟩
    case round =>
      obtain ⟨k, d, rfl, hk, rfl, hdl, hd, hx⟩ := hrel
      by_cases hlt : k < m
      · have cck := cc wr hx.out k
        have hOk := Hid.of (HO.out k (by rw [hd.out]))
        have hvl := HVL.out k
        generalize s.chE V k = E at cck hOk
        generalize s.chV V k = dv at cck hOk hvl
        go_wp2_with fail
        refine cck.mono ?_
        rintro e w2 ⟨rfl, hx2⟩
        have HX2 := Hid.of (hx.out.then0 hx2)
        clear hx2 cck cc
        by_cases h0 : E = 0
        · subst h0
          have hn : Hid (dN (k + 1) = (d ++ dv, 0)) := Hid.of (by rw [hOk.out, if_neg (by simp), hd.out])
          have hap : (⟨d.toArray⟩ : ByteArray) ++ ⟨dv.toArray⟩ = ⟨(d ++ dv).toArray⟩ := by rw [ByteArray.mk_append_mk]
          clear hOk
          go_wp2
          go_roundw
          case rel => exact ⟨k + 1, d ++ dv, by go_num, by omega, rfl, by rw [List.length_append]; omega, hn, HX2⟩
          case measure => simp [intOf]; omega
        · have hn : Hid (dt = ([], E)) := Hid.of (by
            have e1 : dN (k + 1) = ([], E) := by rw [hOk.out, if_pos h0]
            rw [HE.out, HS.out (k + 1) (by rw [e1]; exact h0) m (by omega), e1])
          have h0b : (E == 0) = false := by simp [h0]
          clear hOk
          go_wp2
          go_ret2
          exact ⟨by rw [hn.out]; rfl, HX2.out⟩
      · have hn : Hid (dt = (d, 0)) := Hid.of (by rw [HE.out, ← hd.out]; congr 1; omega)
        go_wp2
        go_ret2
        exact ⟨by rw [hn.out]; rfl, hx.out⟩
end
end Go.Proofs.Ytlnfigbcdmfmdaa
namespace Go.Proofs.Ytlnfigbcdmfmdaa
open Go.RowKit
set_option linter.unusedVariables false
set_option linter.unusedSimpArgs false

theorem slice_eq_nil {P : Program} (w : World) (t e : TypeId) (a : Option Addr) (l c : Nat) (h : P.underlying t = some (.slice e)) : (binOp .eql t (.slice a l c) (.slice none 0 0)).run P w = .ok (.bool a.isNone) w := by
  have h0 : ∀ d, (Op.equalIn (d + 1) t (.slice a l c) (.slice none 0 0)).run P w = .ok a.isNone w := by intro d; cases a <;> simp [Op.equalIn, run_underlying h]
  simp only [binOp]
  simp [show Op.equal t (.slice a l c) (.slice none 0 0) = Op.equalIn (9999 + 1) t (.slice a l c) (.slice none 0 0) from rfl, h0 9999]
/-- Checksums handed back, in a row of the call's own. -/
def SumsNew (w : World) (xs : List (BitVec 32)) (e : Ending) (w' : World) : Prop := ∃ v, e = .returned v ∧ Own w' 35 1 v xs.length (xs.map u32c) ∧ Ext [] w w' ∧ ∀ z ∈ vblocks v, w.heap.size ≤ z
set_option maxHeartbeats 1600000 in
set_option maxRecDepth 100000 in
theorem clonesum_any (sv : Value) (xs : List (BitVec 32)) (w : World) (h : Sums w sv xs) (hl : xs.length ≤ 1000000) :
    Calls Try.prog 49 #[sv] w (SumsNew w xs) := by
  obtain ⟨a, cap, rfl⟩ := Rd.isSlice h
  have hlen := Rd.len h
  cases a with
  | none =>
    obtain ⟨_, a', cap', e, _, _, h4, _⟩ := id h
    simp only [Value.slice.injEq] at e
    obtain ⟨rfl, _, rfl⟩ := e
    obtain ⟨h0, h00⟩ := h4 rfl
    obtain rfl : xs = [] := List.eq_nil_of_length_eq_zero h0
    subst h00
    have h0' : Own w 35 1 (.slice none 0 0) 0 [] := Own.nil _ _ _
    clear h hlen h4
    have hq := fun W : World => slice_eq_nil (P := Try.prog) W 40 _ none 0 0 Try.underlying40
    go_enter Try.func49, Try.ntmps49
    go_wp2
    clear hq
    go_wp2
    go_ret
    exact ⟨.slice none 0 0, rfl, h0', Ext.refl _ _, by simp [vblocks]⟩
  | some g =>
    obtain ⟨W, hW⟩ : ∃ W, W = w.alloc (.cells #[] 35) := ⟨_, rfl⟩
    have ho0 : Own W 35 1 (.slice (some ⟨w.heap.size, 0, none⟩) 0 0) 0 [] := by rw [hW]; exact Own.lit w #[] 35 1 0 rfl (by unfold maxLen; omega)
    have hxW : Ext [] w W := by rw [hW]; exact (Ext.refl _ _).alloc _
    have hsW : W.heap.size = w.heap.size + 1 := by rw [hW]; simp
    have hr : Rd W 1 (.slice (some g) xs.length cap) xs.length (xs.map u32c) := h.keep0 hxW
    have hq := fun W : World => slice_eq_nil (P := Try.prog) W 40 _ (some g) xs.length cap Try.underlying40
    go_enter Try.func49, Try.ntmps49
    go_wp2_with (first | (rw [← hW]; (with_reducible refine wpl_append (d := some 7) 35 (.int .u32 0) 1 4 el_sums _ _ _ ?_ ho0 (.slice (some g) xs.length cap) xs.length (xs.map u32c) ?_ hr (u32c_cells _) ?_ ?_ ?_)))
    all_goals try rfl
    · omega
    · unfold maxLen; omega
    · intro v' w' ho' hx' hv' _
      try rw [Nat.zero_add] at ho'
      try rw [List.nil_append] at ho'
      have hx2 : Ext [] w w' := by
        first
          | exact hxW.trans hx' (fun z hz => .inr (by simp [vblocks] at hz; omega))
          | (rw [hW] at hxW; exact hxW.trans hx' (fun z hz => .inr (by simp [vblocks] at hz; omega)))
      have hv2 : ∀ z ∈ vblocks v', w.heap.size ≤ z := by
        intro z hz
        rcases hv' with h | h
        · rw [h] at hz; simp [vblocks] at hz; omega
        · rw [h] at hz; simp at hz; omega
      clear hW hx' hv' hr h hlen ho0
      go_wp2
      go_ret
      exact ⟨v', rfl, ho', hx2, hv2⟩
/-- What List hands back. -/
def ListTo (s : Sto) (w : World) (e : Ending) (w' : World) : Prop := ∃ sl, e = .returned (.tuple #[lsv (if s.area < 0 then Ls.zero else s.list) sl, .bool (decide (¬ s.area < 0))]) ∧ Own w' 35 1 sl (if s.area < 0 then Ls.zero else s.list).sums.length ((if s.area < 0 then Ls.zero else s.list).sums.map u32c) ∧ Ext [] w w' ∧ ∀ z ∈ vblocks sl, w.heap.size ≤ z
theorem list_nil7 (w : World) : Calls Try.prog 27 #[.pointer none] w fun e w' => e = .returned (.tuple #[lsv Ls.zero (.slice none 0 0), .bool false]) ∧ Ext [] w w' := by
  go_enter Try.func27, Try.ntmps27
  obtain ⟨W, hW⟩ : ∃ W, W = w.alloc (.cells #[.int .i64 0, .int .i64 0, .int .i64 0, .slice none 0 0] 42) := ⟨_, rfl⟩
  have hxW : Ext [] w W := by rw [hW]; exact (Ext.refl _ _).alloc _
  have hb : Blk W w.heap.size 42 [.int .i64 0, .int .i64 0, .int .i64 0, .slice none 0 0] := by rw [hW]; exact Blk.new w 42 #[.int .i64 0, .int .i64 0, .int .i64 0, .slice none 0 0]
  go_wp2
  have d0 := Blk.c hb 0
  have d1 := Blk.c hb 1
  have d2 := Blk.c hb 2
  have d3 := Blk.c hb 3
  simp only [List.getElem?_cons_zero, List.getElem?_cons_succ] at d0 d1 d2 d3
  rw [← hW]
  exact bodyPost_ret (v := .tuple #[lsv Ls.zero (.slice none 0 0), .bool false]) (by simp [results, Try.results27, lsv, Ls.zero, go_sem, d0, d1, d2, d3]) rfl ⟨rfl, hxW⟩
section
variable {w0 w : World} {q b : Nat} {sv : Value} {D : Dv} {s : Sto} {n : Int} {O : List Nat} {V : Int → Sl}
set_option maxHeartbeats 3200000 in
theorem StM.list7 (h : StM w0 w q b sv D s n O) : Calls Try.prog 27 #[.pointer (some ⟨q, 0, none⟩)] w (ListTo s w) := by
  by_cases har : s.area < 0
  · have HP : Hid (∀ w', Ext [] w w' → ListTo s w (.returned (.tuple #[lsv Ls.zero (.slice none 0 0), .bool false])) w') := Hid.of (fun w' hx => ⟨.slice none 0 0, by rw [if_pos har]; simp [har], by rw [if_pos har]; exact Own.nil _ _ _, hx, by simp [vblocks]⟩)
    obtain ⟨-, -, c2, -, -, -, -⟩ := h.blk.cells
    have hql := Blk.lt h.blk
    generalize s.area = ar at c2 har
    clear h
    obtain ⟨W, hW⟩ : ∃ W, W = w.alloc (.cells #[.int .i64 0, .int .i64 0, .int .i64 0, .slice none 0 0] 42) := ⟨_, rfl⟩
    have hxW : Ext [] w W := by rw [hW]; exact (Ext.refl _ _).alloc _
    have hb : Blk W w.heap.size 42 [.int .i64 0, .int .i64 0, .int .i64 0, .slice none 0 0] := by rw [hW]; exact Blk.new w 42 #[.int .i64 0, .int .i64 0, .int .i64 0, .slice none 0 0]
    have cw : (w.alloc (.cells #[.int .i64 0, .int .i64 0, .int .i64 0, .slice none 0 0] 42)).cell? ⟨q, 2, none⟩ = some (.int .i64 ar) := by rw [← hW]; exact hxW.cell (p := ⟨q, 2, none⟩) (by simp) c2
    go_enter Try.func27, Try.ntmps27
    go_wp2
    have d0 := Blk.c hb 0
    have d1 := Blk.c hb 1
    have d2 := Blk.c hb 2
    have d3 := Blk.c hb 3
    simp only [List.getElem?_cons_zero, List.getElem?_cons_succ] at d0 d1 d2 d3
    rw [← hW]
    exact bodyPost_ret (v := .tuple #[lsv Ls.zero (.slice none 0 0), .bool false]) (by simp [results, Try.results27, lsv, Ls.zero, go_sem, d0, d1, d2, d3]) rfl (HP.out _ hxW)
  · have HP : Hid (∀ w' sl, Own w' 35 1 sl s.list.sums.length (s.list.sums.map u32c) → Ext [] w w' → (∀ z ∈ vblocks sl, w.heap.size ≤ z) → ListTo s w (.returned (.tuple #[lsv s.list sl, .bool true])) w') := Hid.of (fun w' sl ho hx hv => ⟨sl, by rw [if_neg har]; simp [har], by rw [if_neg har]; exact ho, hx, hv⟩)
    obtain ⟨-, -, c2, c3, c4, c5, c6⟩ := h.blk.cells
    have hlen := h.ok.len.1
    have cs := fun w' (hx : Ext [] w w') => clonesum_any sv s.list.sums w' (h.sums.keep0 hx) (by omega)
    have har2 : decide (s.area < 0) = false := decide_eq_false har
    unfold lsv at HP
    obtain ⟨a, cap, rfl⟩ := Rd.isSlice h.sums
    generalize s.list.sums = xs at cs HP c6 hlen
    generalize hm : xs.length = m at cs HP c6
    generalize s.list.idx = li at c3 HP
    generalize s.list.term = lt at c4 HP
    generalize s.list.bytes = lb at c5 HP
    generalize s.area = ar at c2 har2
    clear h har hlen
    obtain ⟨E, hE⟩ : ∃ E, w.heap.size = E := ⟨_, rfl⟩
    have hZ : ∀ j v, w.cell? ⟨q, j, none⟩ = some v → (w.alloc (.cells #[.int .i64 0, .int .i64 0, .int .i64 0, .slice none 0 0] 42)).cell? ⟨q, j, none⟩ = some v := fun j v hv => ((Ext.refl [] w).alloc _).cell (p := ⟨q, j, none⟩) (by simp) hv
    have d2 := hZ 2 _ c2
    have d3 := hZ 3 _ c3
    have d4 := hZ 4 _ c4
    have d5 := hZ 5 _ c5
    have d6 := hZ 6 _ c6
    clear hZ c2 c3 c4 c5 c6
    go_enter Try.func27, Try.ntmps27
    go_wp2_with fail
    try rw [hE]
    have hAl : (w.alloc (.cells #[.int .i64 0, .int .i64 0, .int .i64 0, .slice none 0 0] 42)).heap.size = (E + 1) := by simp [hE]
    have hB1 : Blk (w.alloc (.cells #[.int .i64 0, .int .i64 0, .int .i64 0, .slice none 0 0] 42)) E 42 [.int .i64 0, .int .i64 0, .int .i64 0, .slice none 0 0] := Blk.newg hE
    have hX1 : Ext [] w (w.alloc (.cells #[.int .i64 0, .int .i64 0, .int .i64 0, .slice none 0 0] 42)) := (Ext.refl _ _).alloc _
    clear d2 d3 d4 d5 d6
    generalize w.alloc (.cells #[.int .i64 0, .int .i64 0, .int .i64 0, .slice none 0 0] 42) = w1 at hAl hB1 hX1 ⊢
    try rw [hAl]
    have hB2 : Blk (w1.alloc (.cells #[.int .i64 li, .int .i64 lt, .int .i64 lb, .slice a m cap] 42)) (E + 1) 42 [.int .i64 li, .int .i64 lt, .int .i64 lb, .slice a m cap] := Blk.newg hAl
    have hBE := hB1.alloc (.cells #[.int .i64 li, .int .i64 lt, .int .i64 lb, .slice a m cap] 42)
    have hXr := hX1.alloc (.cells #[.int .i64 li, .int .i64 lt, .int .i64 lb, .slice a m cap] 42)
    have hsr : (w1.alloc (.cells #[.int .i64 li, .int .i64 lt, .int .i64 lb, .slice a m cap] 42)).heap.size = (E + 1) + 1 := by simp [hAl]
    generalize w1.alloc (.cells #[.int .i64 li, .int .i64 lt, .int .i64 lb, .slice a m cap] 42) = wr at hB2 hBE hXr hsr ⊢
    clear hB1 hX1 hAl
    refine (cs wr hXr).mono ?_
    rintro e w9 ⟨sl, rfl, ho9, hx9, hv9⟩
    rw [hm] at ho9
    obtain ⟨sa, scap, hsl⟩ := Rd.isSlice ho9.rd
    subst hsl
    have hB9 := Blk.keep hB2 hx9 (by simp)
    have hBE8 := Blk.keep hBE hx9 (by simp)
    have hX9 := hXr.then0 hx9
    have hs9 := hx9.size
    have hv : ∀ z ∈ vblocks (.slice sa m scap), (E + 1) + 1 ≤ z := fun z hz => by have := hv9 z hz; omega
    have hEG : E ≠ (E + 1) := by omega
    obtain ⟨wn, hwn⟩ : ∃ wn, wn = w9.setCell ⟨E + 1, 3, none⟩ (.slice sa m scap) := ⟨_, rfl⟩
    have hBG : Blk wn (E + 1) 42 [.int .i64 li, .int .i64 lt, .int .i64 lb, .slice sa m scap] := by rw [hwn]; exact Blk.set hB9 3 (.slice sa m scap)
    have hGx : Ext [E + 1] w9 wn := by rw [hwn]; exact Ext.one _
    have hBE9 : Blk wn E 42 _ := Blk.keep hBE8 hGx (by simp)
    have hXF : Ext [] w wn := hX9.trans hGx (fun z hz => by simp at hz; subst hz; right; omega)
    have ho : Own wn 35 1 (.slice sa m scap) m (xs.map u32c) := ho9.keep hGx (fun k hk h => by simp at h; subst h; have := hv _ hk; omega)
    have gc3 := Blk.c hB9 3
    have gcf := fun j => Blk.f hB9 j
    have gcl := Blk.lt hB9
    simp only [List.getElem?_cons_zero, List.getElem?_cons_succ] at gc3
    clear hB9 hBE8 hX9 ho9 hGx hBE hB2 hv9 cs hx9
    have g0 := Blk.c hBG 0
    have g1 := Blk.c hBG 1
    have g2 := Blk.c hBG 2
    have g3 := Blk.c hBG 3
    have z0 := Blk.c hBE9 0
    have z1 := Blk.c hBE9 1
    have z2 := Blk.c hBE9 2
    have z3 := Blk.c hBE9 3
    have zf := fun j => Blk.f hBE9 j
    have zl := Blk.lt hBE9
    simp only [List.getElem?_cons_zero, List.getElem?_cons_succ] at g0 g1 g2 g3 z0 z1 z2 z3
    have hF := Blk.set (Blk.set (Blk.set (Blk.set hBE9 0 (.int .i64 li)) 1 (.int .i64 lt)) 2 (.int .i64 lb)) 3 (.slice sa m scap)
    have hXE : Ext [] w ((((wn.setCell ⟨E, 0, none⟩ (.int .i64 li)).setCell ⟨E, 1, none⟩ (.int .i64 lt)).setCell ⟨E, 2, none⟩ (.int .i64 lb)).setCell ⟨E, 3, none⟩ (.slice sa m scap)) := (((hXF.setCell (p := ⟨E, 0, none⟩) (.inr (by simp; omega)) (.int .i64 li)).setCell (p := ⟨E, 1, none⟩) (.inr (by simp; omega)) (.int .i64 lt)).setCell (p := ⟨E, 2, none⟩) (.inr (by simp; omega)) (.int .i64 lb)).setCell (p := ⟨E, 3, none⟩) (.inr (by simp; omega)) (.slice sa m scap)
    have hoE : Own ((((wn.setCell ⟨E, 0, none⟩ (.int .i64 li)).setCell ⟨E, 1, none⟩ (.int .i64 lt)).setCell ⟨E, 2, none⟩ (.int .i64 lb)).setCell ⟨E, 3, none⟩ (.slice sa m scap)) 35 1 (.slice sa m scap) m (xs.map u32c) := ho.keep (F := [E]) (((((Ext.refl [E] wn).setCell (p := ⟨E, 0, none⟩) (.inl (by simp)) (.int .i64 li)).setCell (p := ⟨E, 1, none⟩) (.inl (by simp)) (.int .i64 lt)).setCell (p := ⟨E, 2, none⟩) (.inl (by simp)) (.int .i64 lb)).setCell (p := ⟨E, 3, none⟩) (.inl (by simp)) (.slice sa m scap)) (fun k hk h => by simp at h; subst h; have := hv _ hk; omega)
    have hvE : ∀ z ∈ vblocks (.slice sa m scap), w.heap.size ≤ z := fun z hz => by have := hv z hz; omega
    have e0 := Blk.c hF 0
    have e1 := Blk.c hF 1
    have e2 := Blk.c hF 2
    have e3 := Blk.c hF 3
    simp only [List.set_cons_zero, List.set_cons_succ, List.getElem?_cons_zero, List.getElem?_cons_succ] at e0 e1 e2 e3
    clear hF hv ho hXF
    go_upto_region 5 with fail
    rw [← hwn]
    clear hwn gc3 gcf gcl
    go_wp2
    exact bodyPost_ret (v := .tuple #[.agg #[.int .i64 li, .int .i64 lt, .int .i64 lb, .slice sa m scap], .bool true]) (by simp [results, Try.results27, go_sem, e0, e1, e2, e3]) rfl (HP.out _ _ hoE hXE hvE)
end
end Go.Proofs.Ytlnfigbcdmfmdaa
