/- Package chunk: Chunk. (Printed by wip/gen_chunk7.py.) -/
import Derived.Test.YtlnfigbcdmfmdaaChkg
namespace Go.Proofs.Ytlnfigbcdmfmdaa
open Go.RowKit
set_option linter.unusedVariables false
set_option linter.unusedSimpArgs false

/-- What Chunk hands back. -/
def ChPost (s : Sto) (V : Int → Sl) (k : Int) (w : World) (e : Ending) (w' : World) : Prop := e = .returned (.tuple #[str (s.chV V k), .int .i64 (s.chE V k)]) ∧ Ext [] w w'
theorem ChPost.mk {s : Sto} {V : Int → Sl} {k : Int} {w w' : World} {d : List UInt8} {n : Int} (h1 : s.chV V k = d) (h2 : s.chE V k = n) (hx : Ext [] w w') : ChPost s V k w (.returned (.tuple #[.string ⟨d.toArray⟩, .int .i64 n])) w' := by
  subst h1; subst h2; exact ⟨rfl, hx⟩
theorem chunk_nil (k : Int) (w : World) : Calls Try.prog 24 #[.pointer none, .int .i64 k] w fun e w' => e = .returned (.tuple #[.string ⟨#[]⟩, .int .i64 7]) ∧ Ext [] w w' := by
  go_enter Try.func24, Try.ntmps24
  go_wp2
  go_ret2
  exact ⟨rfl, Ext.refl _ _⟩
section
variable {w0 w : World} {q b : Nat} {sv : Value} {D : Dv} {s : Sto} {n : Int} {O : List Nat} {V : Int → Sl}
set_option maxHeartbeats 3200000 in
theorem chunk_none (h : StM w0 w q b sv D s n O) (k : Int) (hk : s.area < 0 ∨ k < 0 ∨ (s.list.sums.length : Int) ≤ k) :
    Calls Try.prog 24 #[.pointer (some ⟨q, 0, none⟩), .int .i64 k] w (ChPost s V k w) := by
  have hE : s.chE V k = 7 := by unfold Sto.chE; rw [if_pos hk]
  have hV : s.chV V k = [] := by unfold Sto.chV; rw [hE]; rfl
  have HP : Hid (∀ w', Ext [] w w' → ChPost s V k w (.returned (.tuple #[.string ⟨#[]⟩, .int .i64 7])) w') := Hid.of (fun w' hx => ChPost.mk hV hE hx)
  obtain ⟨-, -, c2, -, -, -, c6⟩ := h.blk.cells
  obtain ⟨a, cap, rfl⟩ := Rd.isSlice h.sums
  have hlen := h.ok.len.1
  have hl9 : (s.list.sums.length : Int) ≤ 64 := by omega
  generalize s.list.sums.length = m at c6 hk hlen hl9
  generalize s.area = ar at c2 hk
  clear h hE hV
  by_cases h1 : ar < 0
  · clear hk
    go_enter Try.func24, Try.ntmps24
    go_wp2
    go_ret2
    exact HP.out _ (Ext.refl _ _)
  · by_cases h2 : k < 0
    · clear hk
      go_enter Try.func24, Try.ntmps24
      go_wp2
      go_ret2
      exact HP.out _ (Ext.refl _ _)
    · have h3 : (m : Int) ≤ k := (hk.resolve_left h1).resolve_left h2
      clear hk
      go_enter Try.func24, Try.ntmps24
      go_wp2
      go_ret2
      exact HP.out _ (Ext.refl _ _)
set_option maxRecDepth 100000 in
set_option maxHeartbeats 12800000 in
theorem chunk_in (h : StM w0 w q b sv D s n O) (hf : Fine D n V 0) (k : Int) (hk : ¬ (s.area < 0 ∨ k < 0 ∨ (s.list.sums.length : Int) ≤ k)) :
    Calls Try.prog 24 #[.pointer (some ⟨q, 0, none⟩), .int .i64 k] w (ChPost s V k w) := by
  have hk0 : ¬ s.area < 0 := fun hh => hk (.inl hh)
  have hk1 : ¬ k < 0 := fun hh => hk (.inr (.inl hh))
  have hk2 : k < s.list.sums.length := by omega
  have hlen := h.ok.len.1
  have har : s.area ≤ 1 := by have := h.ok.area; omega
  have hb1 := h.ok.base
  have hb2 := h.ok.fit
  have hb3 := h.ok.big
  have hBB : s.b s.area (2 + k) = s.base + s.area * 66 + (2 + k) := rfl
  have hrng : 0 ≤ s.b s.area (2 + k) ∧ s.b s.area (2 + k) < n := by omega
  have hdl := hf.dlen hrng.1 hrng.2
  have HE : Hid (s.chE V k = if (V (s.b s.area (2 + k))).1 ≠ 1 ∨ (V (s.b s.area (2 + k))).2.kind ≠ 5 ∨ (V (s.b s.area (2 + k))).2.idx ≠ s.list.idx ∨ (V (s.b s.area (2 + k))).2.term ≠ k ∨ sumOf (V (s.b s.area (2 + k))).2.data ≠ s.list.sums.getD k.toNat 0 then 6 else 0) := Hid.of (by unfold Sto.chE; rw [if_neg hk])
  have HV : Hid (s.chV V k = if s.chE V k = 0 then (V (s.b s.area (2 + k))).2.data else []) := Hid.of rfl
  have HP : Hid (∀ w' d m, s.chV V k = d → s.chE V k = m → Ext [] w w' → ChPost s V k w (.returned (.tuple #[.string ⟨d.toArray⟩, .int .i64 m])) w') := Hid.of (fun w' d m h1 h2 hx => ChPost.mk h1 h2 hx)
  have cb := fun w' (hx : Ext [] w w') => block_o (Blk.keep h.blk hx (by simp) : StB w' q b sv s) ⟨hb1, by omega⟩ s.area (2 + k) ⟨by omega, har⟩ ⟨by omega, by omega⟩
  have cr := fun w' (hx : Ext [] w w') => sread_v (h.dev.keep hx) hf (s.b s.area (2 + k)) hrng.1 hrng.2
  have cq := fun w' (hx : Ext [] w w') => StB.cells (Blk.keep h.blk hx (by simp) : StB w' q b sv s)
  obtain ⟨kn, rfl⟩ : ∃ kn : Nat, k = kn := ⟨k.toNat, by omega⟩
  have hkl : kn < s.list.sums.length := by omega
  obtain ⟨g0, off, hsv, hgw, hcs⟩ : ∃ g0 off, (∃ cap, sv = .slice (some ⟨g0, off, none⟩) s.list.sums.length cap) ∧ g0 < w.heap.size ∧ ∀ j u, (s.list.sums.map u32c)[j]? = some u → w.cell? ⟨g0, off + j, none⟩ = some u := by
    obtain ⟨a, cap, rfl⟩ := Rd.isSlice h.sums
    obtain ⟨g, off, rfl, hg, hc⟩ := Rd.view h.sums (by omega)
    exact ⟨g, off, ⟨cap, rfl⟩, hg, hc⟩
  obtain ⟨cap, rfl⟩ := hsv
  have hsc := hcs kn (u32c s.list.sums[kn]) (by rw [List.getElem?_map, List.getElem?_eq_getElem hkl]; rfl)
  have cs := fun w' (hx : Ext [] w w') => hx.cell (p := ⟨g0, off + kn, none⟩) (by simp) hsc
  have hgd : s.list.sums.getD (kn : Int).toNat 0 = s.list.sums[kn] := by
    have e : (kn : Int).toNat = kn := by omega
    rw [e]; simp [List.getD, hkl]
  rw [hgd] at HE
  unfold u32c at cs
  have hU := Hid.of (fun x => @u32v_inj x s.list.sums[kn])
  have hcapl : (s.list.sums.length : Int) ≤ 64 := by omega
  have hkm : (kn : Int) < (s.list.sums.length : Int) := hk2
  clear hsc hgd hcs
  generalize s.list.sums[kn] = sm at cs HE hU
  generalize s.chE V kn = E at HE HV HP
  generalize s.chV V kn = DV at HV HP
  generalize hx0 : V (s.b s.area (2 + (kn : Int))) = x at cr HE HV hdl
  obtain ⟨st, rk, ri, rt, rd⟩ := x
  generalize s.b s.area (2 + (kn : Int)) = B at cb cr
  generalize s.list.sums.length = m at cq hcapl hkm hkl hlen hk2
  generalize s.list.idx = li at cq HE
  generalize s.list.term = lt at cq
  generalize s.list.bytes = lb at cq
  generalize s.area = ar at cq cb hk0 har
  generalize s.base = base at cq
  simp only [Rc.val] at cr HE HV hdl
  have hk3 : ¬ (m : Int) ≤ kn := by omega
  clear h hf hk hx0 hBB hrng hb1 hb2 hb3 hgw
  go_enter Try.func24, Try.ntmps24
  obtain ⟨-, -, c2, -, -, -, c6⟩ := cq w (Ext.refl _ _)
  have e2 : decide (ar < 0) = false := decide_eq_false hk0
  have e3 : decide ((kn : Int) < 0) = false := decide_eq_false hk1
  have e4 : decide ((m : Int) ≤ kn) = false := decide_eq_false hk3
  go_upto_region 3 with fail
  clear c2 c6
  refine wp_region_u [33, 34, 35, 36, 37, 38, 39, 40, 41, 42, 43, 44, 45, 32, 46, 47, 48, 6, 7, 8] [17, 18] (fun n => match n with | 0 => .pointer (some ⟨q, 0, none⟩) | 1 => .pointer (some ⟨q, 0, none⟩) | 2 => .pointer (some ⟨q, 0, none⟩) | 3 => .pointer (some ⟨b, 0, none⟩) | 4 => .pointer (some ⟨q, 0, none⟩) | 5 => .pointer (some ⟨q, 0, none⟩) | 6 => .pointer (some ⟨q, 0, none⟩) | 7 => .pointer (some ⟨q, 2, none⟩) | 8 => .int .i64 ar | 9 => .int .i64 (kn : Int) | 10 => .int .i64 (2 + (kn : Int)) | 11 => .int .i64 B | 12 => .tuple #[.agg #[.int .i64 rk, .int .i64 ri, .int .i64 rt, .string ⟨rd.toArray⟩], .int .i64 st, .int .i64 0] | 13 => .tuple #[.agg #[.int .i64 rk, .int .i64 ri, .int .i64 rt, .string ⟨rd.toArray⟩], .int .i64 st, .int .i64 0] | 14 => .agg #[.int .i64 rk, .int .i64 ri, .int .i64 rt, .string ⟨rd.toArray⟩] | 15 => .int .i64 st | 16 => .int .i64 0 | 19 => .int .i64 st | 20 => .int .i64 0 | _ => undef) (fun f v wx => Ext [] w wx ∧ (f 17 = true → ∃ L, v 17 = .pointer (some ⟨L, 0, none⟩) ∧ w.heap.size ≤ L ∧ (f 18 = false → Blk wx L 63 [.int .i64 0, .int .i64 0, .int .i64 0, .string ⟨#[]⟩]) ∧ (f 18 = true → Blk wx L 63 [.int .i64 rk, .int .i64 ri, .int .i64 rt, .string ⟨rd.toArray⟩]))) (by kernel_rfl) (by kernel_rfl) ?hst0_3 ?h00_3 ?hst_3 ?hend_3
  case hst0_3 =>
    rintro f v w w' ⟨hx, j3⟩ hx2
    refine ⟨hx.then0 hx2, fun h => ?_⟩
    obtain ⟨L, eL, hL, jz, jn⟩ := j3 h
    exact ⟨L, eL, hL, fun h8 => Blk.keep (jz h8) hx2 List.not_mem_nil, fun h8 => Blk.keep (jn h8) hx2 List.not_mem_nil⟩
  case h00_3 =>
    exact ⟨Ext.refl _ _, fun h => (by cases h)⟩
  case hst_3 =>
    refine ⟨?f0_3, ?f1_3, ?f2_3, ?f3_3, ?f4_3, ?f5_3, ?f6_3, ?f7_3, ?f8_3, ?f9_3, ?f10_3, ?f11_3, ?f12_3, ?f13_3, ?f14_3, ?f15_3, ?f16_3, ?f17_3, ?f18_3, ?f19_3, ?f20_3, trivial⟩
    case f0_3 =>
      intro f v g w' hJ hfi hb hd
      refine arm_u rfl ?_
      refine op_run rfl ?_
      generalize hA : mkAct _ _ g = A
      have h0 : A.tmps[0]?.getD undef = .pointer (some ⟨q, 0, none⟩) := by rw [← hA]; exact mkAct_out2 _ _ _ _ _ rfl rfl
      refine step_val (v := .pointer (some ⟨q, 0, none⟩)) (w' := w') ?_ ⟨rfl, Ext.refl _ _⟩
      simp [execOp, h0, Result.andThen, go_sem]
    case f1_3 =>
      intro f v g w' hJ hfi hb hd
      refine arm_u rfl ?_
      refine op_run rfl ?_
      have e33 : g 33 = .pointer (some ⟨q, 0, none⟩) := value_u (hd ⟨0, .data⟩ (by simp) rfl) rfl rfl
      generalize hA : mkAct _ _ g = A
      have h33 : A.tmps[33]?.getD undef = .pointer (some ⟨q, 0, none⟩) := by rw [← hA, mkAct_in2 _ _ _ _ rfl rfl]; exact e33
      refine step_val (v := .pointer (some ⟨q, 0, none⟩)) (w' := w') ?_ ⟨rfl, Ext.refl _ _⟩
      simp [execOp, h33, Result.andThen, go_sem]
    case f2_3 =>
      intro f v g w' hJ hfi hb hd
      refine arm_u rfl ?_
      refine op_run rfl ?_
      have e34 : g 34 = .pointer (some ⟨q, 0, none⟩) := value_u (hd ⟨1, .data⟩ (by simp) rfl) rfl rfl
      generalize hA : mkAct _ _ g = A
      have h34 : A.tmps[34]?.getD undef = .pointer (some ⟨q, 0, none⟩) := by rw [← hA, mkAct_in2 _ _ _ _ rfl rfl]; exact e34
      refine step_val (v := .pointer (some ⟨q, 0, none⟩)) (w' := w') ?_ ⟨rfl, Ext.refl _ _⟩
      simp [execOp, h34, Result.andThen, go_sem]
    case f3_3 =>
      intro f v g w' hJ hfi hb hd
      refine arm_u rfl ?_
      refine op_run rfl ?_
      have e35 : g 35 = .pointer (some ⟨q, 0, none⟩) := value_u (hd ⟨2, .data⟩ (by simp) rfl) rfl rfl
      generalize hA : mkAct _ _ g = A
      have h35 : A.tmps[35]?.getD undef = .pointer (some ⟨q, 0, none⟩) := by rw [← hA, mkAct_in2 _ _ _ _ rfl rfl]; exact e35
      have c := (cq w' hJ.1).1
      refine step_val (v := .pointer (some ⟨b, 0, none⟩)) (w' := w') ?_ ⟨rfl, Ext.refl _ _⟩
      simp [execOp, h35, c, Result.andThen, go_sem]
    case f4_3 =>
      intro f v g w' hJ hfi hb hd
      refine arm_u rfl ?_
      refine op_run rfl ?_
      generalize hA : mkAct _ _ g = A
      have h0 : A.tmps[0]?.getD undef = .pointer (some ⟨q, 0, none⟩) := by rw [← hA]; exact mkAct_out2 _ _ _ _ _ rfl rfl
      refine step_val (v := .pointer (some ⟨q, 0, none⟩)) (w' := w') ?_ ⟨rfl, Ext.refl _ _⟩
      simp [execOp, h0, Result.andThen, go_sem]
    case f5_3 =>
      intro f v g w' hJ hfi hb hd
      refine arm_u rfl ?_
      refine op_run rfl ?_
      generalize hA : mkAct _ _ g = A
      have h0 : A.tmps[0]?.getD undef = .pointer (some ⟨q, 0, none⟩) := by rw [← hA]; exact mkAct_out2 _ _ _ _ _ rfl rfl
      refine step_val (v := .pointer (some ⟨q, 0, none⟩)) (w' := w') ?_ ⟨rfl, Ext.refl _ _⟩
      simp [execOp, h0, Result.andThen, go_sem]
    case f6_3 =>
      intro f v g w' hJ hfi hb hd
      refine arm_u rfl ?_
      refine op_run rfl ?_
      have e38 : g 38 = .pointer (some ⟨q, 0, none⟩) := value_u (hd ⟨5, .data⟩ (by simp) rfl) rfl rfl
      generalize hA : mkAct _ _ g = A
      have h38 : A.tmps[38]?.getD undef = .pointer (some ⟨q, 0, none⟩) := by rw [← hA, mkAct_in2 _ _ _ _ rfl rfl]; exact e38
      refine step_val (v := .pointer (some ⟨q, 0, none⟩)) (w' := w') ?_ ⟨rfl, Ext.refl _ _⟩
      simp [execOp, h38, Result.andThen, go_sem]
    case f7_3 =>
      intro f v g w' hJ hfi hb hd
      refine arm_u rfl ?_
      refine op_run rfl ?_
      have e39 : g 39 = .pointer (some ⟨q, 0, none⟩) := value_u (hd ⟨6, .data⟩ (by simp) rfl) rfl rfl
      generalize hA : mkAct _ _ g = A
      have h39 : A.tmps[39]?.getD undef = .pointer (some ⟨q, 0, none⟩) := by rw [← hA, mkAct_in2 _ _ _ _ rfl rfl]; exact e39
      refine step_val (v := .pointer (some ⟨q, 2, none⟩)) (w' := w') ?_ ⟨rfl, Ext.refl _ _⟩
      simp [execOp, h39, Result.andThen, go_sem]
    case f8_3 =>
      intro f v g w' hJ hfi hb hd
      refine arm_u rfl ?_
      refine op_run rfl ?_
      have e40 : g 40 = .pointer (some ⟨q, 2, none⟩) := value_u (hd ⟨7, .data⟩ (by simp) rfl) rfl rfl
      generalize hA : mkAct _ _ g = A
      have h40 : A.tmps[40]?.getD undef = .pointer (some ⟨q, 2, none⟩) := by rw [← hA, mkAct_in2 _ _ _ _ rfl rfl]; exact e40
      have c := (cq w' hJ.1).2.2.1
      refine step_val (v := .int .i64 ar) (w' := w') ?_ ⟨rfl, Ext.refl _ _⟩
      simp [execOp, h40, c, Result.andThen, go_sem]
    case f9_3 =>
      intro f v g w' hJ hfi hb hd
      refine arm_u rfl ?_
      refine op_run rfl ?_
      generalize hA : mkAct _ _ g = A
      have h1 : A.tmps[1]?.getD undef = .int .i64 (kn : Int) := by rw [← hA]; exact mkAct_out2 _ _ _ _ _ rfl rfl
      refine step_val (v := .int .i64 (kn : Int)) (w' := w') ?_ ⟨rfl, Ext.refl _ _⟩
      simp [execOp, h1, Result.andThen, go_sem]
    case f10_3 =>
      intro f v g w' hJ hfi hb hd
      refine arm_u rfl ?_
      refine op_run rfl ?_
      have e42 : g 42 = .int .i64 (kn : Int) := value_u (hd ⟨9, .data⟩ (by simp) rfl) rfl rfl
      generalize hA : mkAct _ _ g = A
      have h42 : A.tmps[42]?.getD undef = .int .i64 (kn : Int) := by rw [← hA, mkAct_in2 _ _ _ _ rfl rfl]; exact e42
      refine step_val (v := .int .i64 (2 + (kn : Int))) (w' := w') ?_ ⟨rfl, Ext.refl _ _⟩
      simp [execOp, h42, Result.andThen, go_sem]
      exact IntWalk.i64_in _ ⟨by omega, by omega⟩
    case f11_3 =>
      intro f v g w' hJ hfi hb hd
      refine arm_u rfl ?_
      refine op_run rfl ?_
      have e37 : g 37 = .pointer (some ⟨q, 0, none⟩) := value_u (hd ⟨4, .data⟩ (by simp) rfl) rfl rfl
      have e41 : g 41 = .int .i64 ar := value_u (hd ⟨8, .data⟩ (by simp) rfl) rfl rfl
      have e43 : g 43 = .int .i64 (2 + (kn : Int)) := value_u (hd ⟨10, .data⟩ (by simp) rfl) rfl rfl
      generalize hA : mkAct _ _ g = A
      have h37 : A.tmps[37]?.getD undef = .pointer (some ⟨q, 0, none⟩) := by rw [← hA, mkAct_in2 _ _ _ _ rfl rfl]; exact e37
      have h41 : A.tmps[41]?.getD undef = .int .i64 ar := by rw [← hA, mkAct_in2 _ _ _ _ rfl rfl]; exact e41
      have h43 : A.tmps[43]?.getD undef = .int .i64 (2 + (kn : Int)) := by rw [← hA, mkAct_in2 _ _ _ _ rfl rfl]; exact e43
      refine float_u (fun K hK => ?_)
      go_simp
      refine (cb w' hJ.1).mono ?_
      rintro e w2 ⟨rfl, hx2⟩
      exact hK w2 hx2
    case f12_3 =>
      intro f v g w' hJ hfi hb hd
      refine arm_u rfl ?_
      refine op_run rfl ?_
      have e36 : g 36 = .pointer (some ⟨b, 0, none⟩) := value_u (hd ⟨3, .data⟩ (by simp) rfl) rfl rfl
      have e44 : g 44 = .int .i64 B := value_u (hd ⟨11, .data⟩ (by simp) rfl) rfl rfl
      generalize hA : mkAct _ _ g = A
      have h36 : A.tmps[36]?.getD undef = .pointer (some ⟨b, 0, none⟩) := by rw [← hA, mkAct_in2 _ _ _ _ rfl rfl]; exact e36
      have h44 : A.tmps[44]?.getD undef = .int .i64 B := by rw [← hA, mkAct_in2 _ _ _ _ rfl rfl]; exact e44
      refine float_u (fun K hK => ?_)
      go_simp
      refine (cr w' hJ.1).mono ?_
      rintro e w2 ⟨rfl, hx2⟩
      exact hK w2 hx2
    case f13_3 =>
      intro f v g w' hJ hfi hb hd
      refine arm_u rfl ?_
      refine op_run rfl ?_
      have e45 : g 45 = .tuple #[.agg #[.int .i64 rk, .int .i64 ri, .int .i64 rt, .string ⟨rd.toArray⟩], .int .i64 st, .int .i64 0] := value_u (hd ⟨12, .data⟩ (by simp) rfl) rfl rfl
      generalize hA : mkAct _ _ g = A
      have h45 : A.tmps[45]?.getD undef = .tuple #[.agg #[.int .i64 rk, .int .i64 ri, .int .i64 rt, .string ⟨rd.toArray⟩], .int .i64 st, .int .i64 0] := by rw [← hA, mkAct_in2 _ _ _ _ rfl rfl]; exact e45
      refine step_val (v := .tuple #[.agg #[.int .i64 rk, .int .i64 ri, .int .i64 rt, .string ⟨rd.toArray⟩], .int .i64 st, .int .i64 0]) (w' := w') ?_ ⟨rfl, Ext.refl _ _⟩
      simp [execOp, h45, Result.andThen, go_sem]
    case f14_3 =>
      intro f v g w' hJ hfi hb hd
      refine arm_u rfl ?_
      refine op_run rfl ?_
      have e32 : g 32 = .tuple #[.agg #[.int .i64 rk, .int .i64 ri, .int .i64 rt, .string ⟨rd.toArray⟩], .int .i64 st, .int .i64 0] := value_u (hd ⟨13, .data⟩ (by simp) rfl) rfl rfl
      generalize hA : mkAct _ _ g = A
      have h32 : A.tmps[32]?.getD undef = .tuple #[.agg #[.int .i64 rk, .int .i64 ri, .int .i64 rt, .string ⟨rd.toArray⟩], .int .i64 st, .int .i64 0] := by rw [← hA, mkAct_in2 _ _ _ _ rfl rfl]; exact e32
      refine step_val (v := .agg #[.int .i64 rk, .int .i64 ri, .int .i64 rt, .string ⟨rd.toArray⟩]) (w' := w') ?_ ⟨rfl, Ext.refl _ _⟩
      simp [execOp, h32, Result.andThen, go_sem]
    case f15_3 =>
      intro f v g w' hJ hfi hb hd
      refine arm_u rfl ?_
      refine op_run rfl ?_
      have e32 : g 32 = .tuple #[.agg #[.int .i64 rk, .int .i64 ri, .int .i64 rt, .string ⟨rd.toArray⟩], .int .i64 st, .int .i64 0] := value_u (hd ⟨13, .data⟩ (by simp) rfl) rfl rfl
      generalize hA : mkAct _ _ g = A
      have h32 : A.tmps[32]?.getD undef = .tuple #[.agg #[.int .i64 rk, .int .i64 ri, .int .i64 rt, .string ⟨rd.toArray⟩], .int .i64 st, .int .i64 0] := by rw [← hA, mkAct_in2 _ _ _ _ rfl rfl]; exact e32
      refine step_val (v := .int .i64 st) (w' := w') ?_ ⟨rfl, Ext.refl _ _⟩
      simp [execOp, h32, Result.andThen, go_sem]
    case f16_3 =>
      intro f v g w' hJ hfi hb hd
      refine arm_u rfl ?_
      refine op_run rfl ?_
      have e32 : g 32 = .tuple #[.agg #[.int .i64 rk, .int .i64 ri, .int .i64 rt, .string ⟨rd.toArray⟩], .int .i64 st, .int .i64 0] := value_u (hd ⟨13, .data⟩ (by simp) rfl) rfl rfl
      generalize hA : mkAct _ _ g = A
      have h32 : A.tmps[32]?.getD undef = .tuple #[.agg #[.int .i64 rk, .int .i64 ri, .int .i64 rt, .string ⟨rd.toArray⟩], .int .i64 st, .int .i64 0] := by rw [← hA, mkAct_in2 _ _ _ _ rfl rfl]; exact e32
      refine step_val (v := .int .i64 0) (w' := w') ?_ ⟨rfl, Ext.refl _ _⟩
      simp [execOp, h32, Result.andThen, go_sem]
    case f17_3 =>
      intro f v g w' hJ hfi hb hd
      refine arms_u rfl ?_
      refine op_run rfl ?_
      obtain ⟨hx, j3⟩ := hJ
      generalize hA : mkAct _ _ g = A
      have hxa : Ext [] w' (w'.alloc (.cells #[.int .i64 0, .int .i64 0, .int .i64 0, .string ⟨#[]⟩] 63)) := (Ext.refl _ _).alloc _
      refine step_val (v := .pointer (some ⟨w'.heap.size, 0, none⟩)) (w' := w'.alloc (.cells #[.int .i64 0, .int .i64 0, .int .i64 0, .string ⟨#[]⟩] 63)) ?_ ⟨_, rfl, hx.then0 hxa, fun _ => ⟨w'.heap.size, setU_same _ _ _, hx.size, fun _ => Blk.new w' 63 #[.int .i64 0, .int .i64 0, .int .i64 0, .string ⟨#[]⟩], fun h8 => (by have h8' : f 18 = true := h8; rw [not_yet hb (by kernel_rfl)] at h8'; cases h8')⟩⟩
      simp [execOp, Result.andThen, go_sem]
    case f18_3 =>
      intro f v g w' hJ hfi hb hd
      refine arms_u rfl ?_
      refine op_run rfl ?_
      obtain ⟨hfp, ep⟩ := special_u (hd ⟨17, .data⟩ (by simp) rfl) rfl rfl
      replace ep : g 6 = v 17 := ep
      have ev : g 46 = .agg #[.int .i64 rk, .int .i64 ri, .int .i64 rt, .string ⟨rd.toArray⟩] := value_u (hd ⟨14, .data⟩ (by simp) rfl) rfl rfl
      obtain ⟨hx, j3⟩ := hJ
      obtain ⟨L, eL, hL, jz, jn⟩ := j3 hfp
      rw [eL] at ep
      have hB0 := jz hfi
      generalize hA : mkAct _ _ g = A
      have h5 : A.tmps[6]?.getD undef = .pointer (some ⟨L, 0, none⟩) := by rw [← hA, mkAct_in2 _ _ _ _ rfl rfl]; exact ep
      have h6 : A.tmps[46]?.getD undef = .agg #[.int .i64 rk, .int .i64 ri, .int .i64 rt, .string ⟨rd.toArray⟩] := by rw [← hA, mkAct_in2 _ _ _ _ rfl rfl]; exact ev
      have c0 : w'.cell? ⟨L, 0, none⟩ = some (.int .i64 0) := Blk.c hB0 0
      have c1 : w'.cell? ⟨L, 1, none⟩ = some (.int .i64 0) := Blk.c hB0 1
      have c2 : w'.cell? ⟨L, 2, none⟩ = some (.int .i64 0) := Blk.c hB0 2
      have c3 : w'.cell? ⟨L, 3, none⟩ = some (.string ⟨#[]⟩) := Blk.c hB0 3
      have cf := fun j => Blk.f hB0 j
      have cl := Blk.lt hB0
      have HX9 : Ext [L] w' ((((w'.setCell ⟨L, 0, none⟩ (.int .i64 rk)).setCell ⟨L, 1, none⟩ (.int .i64 ri)).setCell ⟨L, 2, none⟩ (.int .i64 rt)).setCell ⟨L, 3, none⟩ (.string ⟨rd.toArray⟩)) := (((((Ext.refl [L] w').setCell (p := ⟨L, 0, none⟩) (.inl (List.mem_singleton.2 rfl)) (.int .i64 rk)).setCell (p := ⟨L, 1, none⟩) (.inl (List.mem_singleton.2 rfl)) (.int .i64 ri)).setCell (p := ⟨L, 2, none⟩) (.inl (List.mem_singleton.2 rfl)) (.int .i64 rt)).setCell (p := ⟨L, 3, none⟩) (.inl (List.mem_singleton.2 rfl)) (.string ⟨rd.toArray⟩))
      have HB9 := (Blk.set (Blk.set (Blk.set (Blk.set hB0 0 (.int .i64 rk)) 1 (.int .i64 ri)) 2 (.int .i64 rt)) 3 (.string ⟨rd.toArray⟩))
      refine step_skip (w' := ((((w'.setCell ⟨L, 0, none⟩ (.int .i64 rk)).setCell ⟨L, 1, none⟩ (.int .i64 ri)).setCell ⟨L, 2, none⟩ (.int .i64 rt)).setCell ⟨L, 3, none⟩ (.string ⟨rd.toArray⟩))) ?_ ⟨undef, rfl, hx.trans HX9 (fun z hz => by simp at hz; subst hz; exact .inr hL), fun _ => ⟨L, eL, hL, fun h => (by cases h), fun _ => HB9⟩⟩
      simp [execOp, h5, h6, c0, c1, c2, c3, cf, cl, Result.andThen, go_sem]
    case f19_3 =>
      intro f v g w' hJ hfi hb hd
      refine arm_u rfl ?_
      refine op_run rfl ?_
      have e47 : g 47 = .int .i64 st := value_u (hd ⟨15, .data⟩ (by simp) rfl) rfl rfl
      generalize hA : mkAct _ _ g = A
      have h47 : A.tmps[47]?.getD undef = .int .i64 st := by rw [← hA, mkAct_in2 _ _ _ _ rfl rfl]; exact e47
      refine step_val (v := .int .i64 st) (w' := w') ?_ ⟨rfl, Ext.refl _ _⟩
      simp [execOp, h47, Result.andThen, go_sem]
    case f20_3 =>
      intro f v g w' hJ hfi hb hd
      refine arm_u rfl ?_
      refine op_run rfl ?_
      have e48 : g 48 = .int .i64 0 := value_u (hd ⟨16, .data⟩ (by simp) rfl) rfl rfl
      generalize hA : mkAct _ _ g = A
      have h48 : A.tmps[48]?.getD undef = .int .i64 0 := by rw [← hA, mkAct_in2 _ _ _ _ rfl rfl]; exact e48
      refine step_val (v := .int .i64 0) (w' := w') ?_ ⟨rfl, Ext.refl _ _⟩
      simp [execOp, h48, Result.andThen, go_sem]
  intro f v g wn hJ hk
  obtain ⟨hf6, e6⟩ := special_u (hk 17 (by decide)) rfl rfl
  replace e6 : g 6 = v 17 := e6
  have e7 : g 7 = .int .i64 st := value_u (hk 19 (by decide)) rfl rfl
  have e8 : g 8 = .int .i64 0 := value_u (hk 20 (by decide)) rfl rfl
  have hfs18 : f 18 = true := ((hk 18 (by decide)).2 rfl).1
  obtain ⟨hx9, j3⟩ := hJ
  obtain ⟨L, eL, hL, jz, jn⟩ := j3 hf6
  rw [eL] at e6
  have hBL := jn hfs18
  clear hk j3 jz jn eL hf6 hfs18
  have HX3 := Hid.of hx9
  have HB3 := Hid.of hBL
  clear hx9 hBL hL cr cb
  unfold mkAct; simp only [List.zipIdx_cons, List.zipIdx_nil, List.map_cons, List.map_nil, Nat.zero_add, Nat.reduceAdd, List.contains_cons, List.contains_nil, Nat.reduceBEq, Bool.or_false, Bool.or_true, ↓reduceIte, Bool.false_eq_true]
  rw [e6, e7, e8]
  clear e6 e7 e8
  go_upto_region 6 with fail
  obtain ⟨T, hT⟩ : ∃ T, T = decide (st ≠ 1 ∨ rk ≠ 5 ∨ ri ≠ li ∨ rt ≠ kn ∨ sumOf rd ≠ sm) := ⟨_, rfl⟩
  have HT := Hid.of hT
  clear hT
  have cq6 := fun w' (hx : Ext [] wn w') => cq w' (HX3.out.then0 hx)
  have cs6 := fun w' (hx : Ext [] wn w') => cs w' (HX3.out.then0 hx)
  have cm6 := fun w' (hx : Ext [] wn w') => Blk4 (Blk.keep HB3.out hx (by simp))
  go_cut [53] (fun v wx => v = .bool T ∧ Hid (Ext [] wn wx))
  case first =>
    by_cases e1 : st = 1
    · subst e1
      by_cases e2 : rk = 5
      · subst e2
        by_cases e3 : ri = li
        · subst e3
          by_cases e4 : rt = kn
          · subst e4
            by_cases e5 : sumOf rd = sm
            · obtain rfl : T = false := by rw [HT.out]; exact decide_eq_false (by simp [e5])
              subst e5
              refine wp_region_u [54, 55, 56, 57, 58, 59, 60, 61, 62, 63, 64, 65, 66, 67, 68, 69, 70, 71, 72, 73, 74, 75, 76, 77, 78, 79, 80, 81, 82, 83, 84, 85, 86, 87, 88, 89, 90, 91, 53] [26] (fun n => match n with | 0 => .int .i64 1 | 1 => .bool false | 2 => .bool false | 3 => .pointer (some ⟨L, 0, none⟩) | 4 => .int .i64 5 | 5 => .bool false | 6 => .bool false | 7 => .bool false | 8 => .pointer (some ⟨L, 1, none⟩) | 9 => .int .i64 ri | 10 => .pointer (some ⟨q, 0, none⟩) | 11 => .pointer (some ⟨q, 0, none⟩) | 12 => .pointer (some ⟨q, 3, none⟩) | 13 => .pointer (some ⟨q, 3, none⟩) | 14 => .int .i64 ri | 15 => .bool false | 16 => .bool false | 17 => .bool false | 18 => .pointer (some ⟨L, 2, none⟩) | 19 => .int .i64 (kn : Int) | 20 => .int .i64 (kn : Int) | 21 => .bool false | 22 => .bool false | 23 => .bool false | 24 => .pointer (some ⟨L, 3, none⟩) | 25 => .string ⟨rd.toArray⟩ | 27 => .int .u32 (u32v (sumOf rd)) | 28 => .pointer (some ⟨q, 0, none⟩) | 29 => .pointer (some ⟨q, 0, none⟩) | 30 => .pointer (some ⟨q, 3, none⟩) | 31 => .pointer (some ⟨q, 6, none⟩) | 32 => .slice (some ⟨g0, off, none⟩) m cap | 33 => .int .i64 (kn : Int) | 34 => .pointer (some ⟨g0, off + kn, none⟩) | 35 => .int .u32 (u32v (sumOf rd)) | 36 => .bool false | 37 => .bool false | 38 => .bool false | _ => undef) (fun f v wx => Ext [] wn wx ∧ (f 26 = true → ∃ z, v 26 = .slice (some ⟨z, 0, none⟩) 1 1 ∧ Blk wx z 9 [str rd])) (by kernel_rfl) (by kernel_rfl) ?hst0_6f ?h00_6f ?hst_6f ?hend_6f
              case hst0_6f =>
                rintro f v w w' ⟨hx, j3⟩ hx2
                refine ⟨hx.then0 hx2, fun h => ?_⟩
                obtain ⟨z, ez, hz⟩ := j3 h
                exact ⟨z, ez, Blk.keep hz hx2 List.not_mem_nil⟩
              case h00_6f =>
                exact ⟨Ext.refl _ _, fun h => (by cases h)⟩
              case hst_6f =>
                refine ⟨?f0_6f, ?f1_6f, ?f2_6f, ?f3_6f, ?f4_6f, ?f5_6f, ?f6_6f, ?f7_6f, ?f8_6f, ?f9_6f, ?f10_6f, ?f11_6f, ?f12_6f, ?f13_6f, ?f14_6f, ?f15_6f, ?f16_6f, ?f17_6f, ?f18_6f, ?f19_6f, ?f20_6f, ?f21_6f, ?f22_6f, ?f23_6f, ?f24_6f, ?f25_6f, ?f26_6f, ?f27_6f, ?f28_6f, ?f29_6f, ?f30_6f, ?f31_6f, ?f32_6f, ?f33_6f, ?f34_6f, ?f35_6f, ?f36_6f, ?f37_6f, ?f38_6f, trivial⟩
                case f0_6f =>
                  intro f v g w' hJ hfi hb hd
                  refine arm_u rfl ?_
                  refine op_run rfl ?_
                  generalize hA : mkAct _ _ g = A
                  have h7 : A.tmps[7]?.getD undef = .int .i64 1 := by rw [← hA]; exact mkAct_out2 _ _ _ _ _ rfl rfl
                  refine step_val (v := .int .i64 1) (w' := w') ?_ ⟨rfl, Ext.refl _ _⟩
                  simp [execOp, h7, Result.andThen, go_sem]
                case f1_6f =>
                  intro f v g w' hJ hfi hb hd
                  refine arm_u rfl ?_
                  refine op_run rfl ?_
                  have e54 : g 54 = .int .i64 1 := value_u (hd ⟨0, .data⟩ (by simp) rfl) rfl rfl
                  generalize hA : mkAct _ _ g = A
                  have h54 : A.tmps[54]?.getD undef = .int .i64 1 := by rw [← hA, mkAct_in2 _ _ _ _ rfl rfl]; exact e54
                  refine step_val (v := .bool false) (w' := w') ?_ ⟨rfl, Ext.refl _ _⟩
                  simp [execOp, h54, Result.andThen, go_sem]
                case f2_6f =>
                  intro f v g w' hJ hfi hb hd
                  refine arm_u rfl ?_
                  refine op_run rfl ?_
                  have e55 : g 55 = .bool false := value_u (hd ⟨1, .data⟩ (by simp) rfl) rfl rfl
                  generalize hA : mkAct _ _ g = A
                  have h55 : A.tmps[55]?.getD undef = .bool false := by rw [← hA, mkAct_in2 _ _ _ _ rfl rfl]; exact e55
                  refine step_val (v := .bool false) (w' := w') ?_ ⟨rfl, Ext.refl _ _⟩
                  simp [execOp, h55, Result.andThen, go_sem]
                case f3_6f =>
                  intro f v g w' hJ hfi hb hd
                  refine arm_u rfl ?_
                  have eg : g 56 = .bool false := value_u (hd ⟨2, .guard⟩ (by simp) rfl) rfl rfl
                  refine op_yes rfl rfl rfl rfl eg ?_
                  generalize hA : mkAct _ _ g = A
                  have h6 : A.tmps[6]?.getD undef = .pointer (some ⟨L, 0, none⟩) := by rw [← hA]; exact mkAct_out2 _ _ _ _ _ rfl rfl
                  refine step_val (v := .pointer (some ⟨L, 0, none⟩)) (w' := w') ?_ ⟨rfl, Ext.refl _ _⟩
                  simp [execOp, h6, Result.andThen, go_sem]
                case f4_6f =>
                  intro f v g w' hJ hfi hb hd
                  refine arm_u rfl ?_
                  have eg : g 56 = .bool false := value_u (hd ⟨2, .guard⟩ (by simp) rfl) rfl rfl
                  refine op_yes rfl rfl rfl rfl eg ?_
                  have e57 : g 57 = .pointer (some ⟨L, 0, none⟩) := value_u (hd ⟨3, .data⟩ (by simp) rfl) rfl rfl
                  generalize hA : mkAct _ _ g = A
                  have h57 : A.tmps[57]?.getD undef = .pointer (some ⟨L, 0, none⟩) := by rw [← hA, mkAct_in2 _ _ _ _ rfl rfl]; exact e57
                  have c := (cm6 w' hJ.1).1
                  refine step_val (v := .int .i64 5) (w' := w') ?_ ⟨rfl, Ext.refl _ _⟩
                  simp [execOp, h57, c, Result.andThen, go_sem]
                case f5_6f =>
                  intro f v g w' hJ hfi hb hd
                  refine arm_u rfl ?_
                  have eg : g 56 = .bool false := value_u (hd ⟨2, .guard⟩ (by simp) rfl) rfl rfl
                  refine op_yes rfl rfl rfl rfl eg ?_
                  have e58 : g 58 = .int .i64 5 := value_u (hd ⟨4, .data⟩ (by simp) rfl) rfl rfl
                  generalize hA : mkAct _ _ g = A
                  have h58 : A.tmps[58]?.getD undef = .int .i64 5 := by rw [← hA, mkAct_in2 _ _ _ _ rfl rfl]; exact e58
                  refine step_val (v := .bool false) (w' := w') ?_ ⟨rfl, Ext.refl _ _⟩
                  simp [execOp, h58, Result.andThen, go_sem]
                case f6_6f =>
                  intro f v g w' hJ hfi hb hd
                  refine arm_u rfl ?_
                  refine op_run rfl ?_
                  have e56 : g 56 = .bool false := value_u (hd ⟨2, .data⟩ (by simp) rfl) rfl rfl
                  have e59 : g 59 = .bool false := value_u (hd ⟨5, .data⟩ (by simp) rfl) rfl rfl
                  generalize hA : mkAct _ _ g = A
                  have h56 : A.tmps[56]?.getD undef = .bool false := by rw [← hA, mkAct_in2 _ _ _ _ rfl rfl]; exact e56
                  have h59 : A.tmps[59]?.getD undef = .bool false := by rw [← hA, mkAct_in2 _ _ _ _ rfl rfl]; exact e59
                  refine step_val (v := .bool false) (w' := w') ?_ ⟨rfl, Ext.refl _ _⟩
                  simp [execOp, h56, h59, Result.andThen, go_sem]
                case f7_6f =>
                  intro f v g w' hJ hfi hb hd
                  refine arm_u rfl ?_
                  refine op_run rfl ?_
                  have e60 : g 60 = .bool false := value_u (hd ⟨6, .data⟩ (by simp) rfl) rfl rfl
                  generalize hA : mkAct _ _ g = A
                  have h60 : A.tmps[60]?.getD undef = .bool false := by rw [← hA, mkAct_in2 _ _ _ _ rfl rfl]; exact e60
                  refine step_val (v := .bool false) (w' := w') ?_ ⟨rfl, Ext.refl _ _⟩
                  simp [execOp, h60, Result.andThen, go_sem]
                case f8_6f =>
                  intro f v g w' hJ hfi hb hd
                  refine arm_u rfl ?_
                  have eg : g 61 = .bool false := value_u (hd ⟨7, .guard⟩ (by simp) rfl) rfl rfl
                  refine op_yes rfl rfl rfl rfl eg ?_
                  generalize hA : mkAct _ _ g = A
                  have h6 : A.tmps[6]?.getD undef = .pointer (some ⟨L, 0, none⟩) := by rw [← hA]; exact mkAct_out2 _ _ _ _ _ rfl rfl
                  refine step_val (v := .pointer (some ⟨L, 1, none⟩)) (w' := w') ?_ ⟨rfl, Ext.refl _ _⟩
                  simp [execOp, h6, Result.andThen, go_sem]
                case f9_6f =>
                  intro f v g w' hJ hfi hb hd
                  refine arm_u rfl ?_
                  have eg : g 61 = .bool false := value_u (hd ⟨7, .guard⟩ (by simp) rfl) rfl rfl
                  refine op_yes rfl rfl rfl rfl eg ?_
                  have e62 : g 62 = .pointer (some ⟨L, 1, none⟩) := value_u (hd ⟨8, .data⟩ (by simp) rfl) rfl rfl
                  generalize hA : mkAct _ _ g = A
                  have h62 : A.tmps[62]?.getD undef = .pointer (some ⟨L, 1, none⟩) := by rw [← hA, mkAct_in2 _ _ _ _ rfl rfl]; exact e62
                  have c := (cm6 w' hJ.1).2.1
                  refine step_val (v := .int .i64 ri) (w' := w') ?_ ⟨rfl, Ext.refl _ _⟩
                  simp [execOp, h62, c, Result.andThen, go_sem]
                case f10_6f =>
                  intro f v g w' hJ hfi hb hd
                  refine arm_u rfl ?_
                  have eg : g 61 = .bool false := value_u (hd ⟨7, .guard⟩ (by simp) rfl) rfl rfl
                  refine op_yes rfl rfl rfl rfl eg ?_
                  generalize hA : mkAct _ _ g = A
                  have h0 : A.tmps[0]?.getD undef = .pointer (some ⟨q, 0, none⟩) := by rw [← hA]; exact mkAct_out2 _ _ _ _ _ rfl rfl
                  refine step_val (v := .pointer (some ⟨q, 0, none⟩)) (w' := w') ?_ ⟨rfl, Ext.refl _ _⟩
                  simp [execOp, h0, Result.andThen, go_sem]
                case f11_6f =>
                  intro f v g w' hJ hfi hb hd
                  refine arm_u rfl ?_
                  have eg : g 61 = .bool false := value_u (hd ⟨7, .guard⟩ (by simp) rfl) rfl rfl
                  refine op_yes rfl rfl rfl rfl eg ?_
                  have e64 : g 64 = .pointer (some ⟨q, 0, none⟩) := value_u (hd ⟨10, .data⟩ (by simp) rfl) rfl rfl
                  generalize hA : mkAct _ _ g = A
                  have h64 : A.tmps[64]?.getD undef = .pointer (some ⟨q, 0, none⟩) := by rw [← hA, mkAct_in2 _ _ _ _ rfl rfl]; exact e64
                  refine step_val (v := .pointer (some ⟨q, 0, none⟩)) (w' := w') ?_ ⟨rfl, Ext.refl _ _⟩
                  simp [execOp, h64, Result.andThen, go_sem]
                case f12_6f =>
                  intro f v g w' hJ hfi hb hd
                  refine arm_u rfl ?_
                  have eg : g 61 = .bool false := value_u (hd ⟨7, .guard⟩ (by simp) rfl) rfl rfl
                  refine op_yes rfl rfl rfl rfl eg ?_
                  have e65 : g 65 = .pointer (some ⟨q, 0, none⟩) := value_u (hd ⟨11, .data⟩ (by simp) rfl) rfl rfl
                  generalize hA : mkAct _ _ g = A
                  have h65 : A.tmps[65]?.getD undef = .pointer (some ⟨q, 0, none⟩) := by rw [← hA, mkAct_in2 _ _ _ _ rfl rfl]; exact e65
                  refine step_val (v := .pointer (some ⟨q, 3, none⟩)) (w' := w') ?_ ⟨rfl, Ext.refl _ _⟩
                  simp [execOp, h65, Result.andThen, go_sem]
                case f13_6f =>
                  intro f v g w' hJ hfi hb hd
                  refine arm_u rfl ?_
                  have eg : g 61 = .bool false := value_u (hd ⟨7, .guard⟩ (by simp) rfl) rfl rfl
                  refine op_yes rfl rfl rfl rfl eg ?_
                  have e66 : g 66 = .pointer (some ⟨q, 3, none⟩) := value_u (hd ⟨12, .data⟩ (by simp) rfl) rfl rfl
                  generalize hA : mkAct _ _ g = A
                  have h66 : A.tmps[66]?.getD undef = .pointer (some ⟨q, 3, none⟩) := by rw [← hA, mkAct_in2 _ _ _ _ rfl rfl]; exact e66
                  refine step_val (v := .pointer (some ⟨q, 3, none⟩)) (w' := w') ?_ ⟨rfl, Ext.refl _ _⟩
                  simp [execOp, h66, Result.andThen, go_sem]
                case f14_6f =>
                  intro f v g w' hJ hfi hb hd
                  refine arm_u rfl ?_
                  have eg : g 61 = .bool false := value_u (hd ⟨7, .guard⟩ (by simp) rfl) rfl rfl
                  refine op_yes rfl rfl rfl rfl eg ?_
                  have e67 : g 67 = .pointer (some ⟨q, 3, none⟩) := value_u (hd ⟨13, .data⟩ (by simp) rfl) rfl rfl
                  generalize hA : mkAct _ _ g = A
                  have h67 : A.tmps[67]?.getD undef = .pointer (some ⟨q, 3, none⟩) := by rw [← hA, mkAct_in2 _ _ _ _ rfl rfl]; exact e67
                  have c := (cq6 w' hJ.1).2.2.2.1
                  refine step_val (v := .int .i64 ri) (w' := w') ?_ ⟨rfl, Ext.refl _ _⟩
                  simp [execOp, h67, c, Result.andThen, go_sem]
                case f15_6f =>
                  intro f v g w' hJ hfi hb hd
                  refine arm_u rfl ?_
                  have eg : g 61 = .bool false := value_u (hd ⟨7, .guard⟩ (by simp) rfl) rfl rfl
                  refine op_yes rfl rfl rfl rfl eg ?_
                  have e63 : g 63 = .int .i64 ri := value_u (hd ⟨9, .data⟩ (by simp) rfl) rfl rfl
                  have e68 : g 68 = .int .i64 ri := value_u (hd ⟨14, .data⟩ (by simp) rfl) rfl rfl
                  generalize hA : mkAct _ _ g = A
                  have h63 : A.tmps[63]?.getD undef = .int .i64 ri := by rw [← hA, mkAct_in2 _ _ _ _ rfl rfl]; exact e63
                  have h68 : A.tmps[68]?.getD undef = .int .i64 ri := by rw [← hA, mkAct_in2 _ _ _ _ rfl rfl]; exact e68
                  refine step_val (v := .bool false) (w' := w') ?_ ⟨rfl, Ext.refl _ _⟩
                  simp [execOp, h63, h68, Result.andThen, go_sem]
                case f16_6f =>
                  intro f v g w' hJ hfi hb hd
                  refine arm_u rfl ?_
                  refine op_run rfl ?_
                  have e61 : g 61 = .bool false := value_u (hd ⟨7, .data⟩ (by simp) rfl) rfl rfl
                  have e69 : g 69 = .bool false := value_u (hd ⟨15, .data⟩ (by simp) rfl) rfl rfl
                  generalize hA : mkAct _ _ g = A
                  have h61 : A.tmps[61]?.getD undef = .bool false := by rw [← hA, mkAct_in2 _ _ _ _ rfl rfl]; exact e61
                  have h69 : A.tmps[69]?.getD undef = .bool false := by rw [← hA, mkAct_in2 _ _ _ _ rfl rfl]; exact e69
                  refine step_val (v := .bool false) (w' := w') ?_ ⟨rfl, Ext.refl _ _⟩
                  simp [execOp, h61, h69, Result.andThen, go_sem]
                case f17_6f =>
                  intro f v g w' hJ hfi hb hd
                  refine arm_u rfl ?_
                  refine op_run rfl ?_
                  have e70 : g 70 = .bool false := value_u (hd ⟨16, .data⟩ (by simp) rfl) rfl rfl
                  generalize hA : mkAct _ _ g = A
                  have h70 : A.tmps[70]?.getD undef = .bool false := by rw [← hA, mkAct_in2 _ _ _ _ rfl rfl]; exact e70
                  refine step_val (v := .bool false) (w' := w') ?_ ⟨rfl, Ext.refl _ _⟩
                  simp [execOp, h70, Result.andThen, go_sem]
                case f18_6f =>
                  intro f v g w' hJ hfi hb hd
                  refine arm_u rfl ?_
                  have eg : g 71 = .bool false := value_u (hd ⟨17, .guard⟩ (by simp) rfl) rfl rfl
                  refine op_yes rfl rfl rfl rfl eg ?_
                  generalize hA : mkAct _ _ g = A
                  have h6 : A.tmps[6]?.getD undef = .pointer (some ⟨L, 0, none⟩) := by rw [← hA]; exact mkAct_out2 _ _ _ _ _ rfl rfl
                  refine step_val (v := .pointer (some ⟨L, 2, none⟩)) (w' := w') ?_ ⟨rfl, Ext.refl _ _⟩
                  simp [execOp, h6, Result.andThen, go_sem]
                case f19_6f =>
                  intro f v g w' hJ hfi hb hd
                  refine arm_u rfl ?_
                  have eg : g 71 = .bool false := value_u (hd ⟨17, .guard⟩ (by simp) rfl) rfl rfl
                  refine op_yes rfl rfl rfl rfl eg ?_
                  have e72 : g 72 = .pointer (some ⟨L, 2, none⟩) := value_u (hd ⟨18, .data⟩ (by simp) rfl) rfl rfl
                  generalize hA : mkAct _ _ g = A
                  have h72 : A.tmps[72]?.getD undef = .pointer (some ⟨L, 2, none⟩) := by rw [← hA, mkAct_in2 _ _ _ _ rfl rfl]; exact e72
                  have c := (cm6 w' hJ.1).2.2.1
                  refine step_val (v := .int .i64 (kn : Int)) (w' := w') ?_ ⟨rfl, Ext.refl _ _⟩
                  simp [execOp, h72, c, Result.andThen, go_sem]
                case f20_6f =>
                  intro f v g w' hJ hfi hb hd
                  refine arm_u rfl ?_
                  have eg : g 71 = .bool false := value_u (hd ⟨17, .guard⟩ (by simp) rfl) rfl rfl
                  refine op_yes rfl rfl rfl rfl eg ?_
                  generalize hA : mkAct _ _ g = A
                  have h1 : A.tmps[1]?.getD undef = .int .i64 (kn : Int) := by rw [← hA]; exact mkAct_out2 _ _ _ _ _ rfl rfl
                  refine step_val (v := .int .i64 (kn : Int)) (w' := w') ?_ ⟨rfl, Ext.refl _ _⟩
                  simp [execOp, h1, Result.andThen, go_sem]
                case f21_6f =>
                  intro f v g w' hJ hfi hb hd
                  refine arm_u rfl ?_
                  have eg : g 71 = .bool false := value_u (hd ⟨17, .guard⟩ (by simp) rfl) rfl rfl
                  refine op_yes rfl rfl rfl rfl eg ?_
                  have e73 : g 73 = .int .i64 (kn : Int) := value_u (hd ⟨19, .data⟩ (by simp) rfl) rfl rfl
                  have e74 : g 74 = .int .i64 (kn : Int) := value_u (hd ⟨20, .data⟩ (by simp) rfl) rfl rfl
                  generalize hA : mkAct _ _ g = A
                  have h73 : A.tmps[73]?.getD undef = .int .i64 (kn : Int) := by rw [← hA, mkAct_in2 _ _ _ _ rfl rfl]; exact e73
                  have h74 : A.tmps[74]?.getD undef = .int .i64 (kn : Int) := by rw [← hA, mkAct_in2 _ _ _ _ rfl rfl]; exact e74
                  refine step_val (v := .bool false) (w' := w') ?_ ⟨rfl, Ext.refl _ _⟩
                  simp [execOp, h73, h74, Result.andThen, go_sem]
                case f22_6f =>
                  intro f v g w' hJ hfi hb hd
                  refine arm_u rfl ?_
                  refine op_run rfl ?_
                  have e71 : g 71 = .bool false := value_u (hd ⟨17, .data⟩ (by simp) rfl) rfl rfl
                  have e75 : g 75 = .bool false := value_u (hd ⟨21, .data⟩ (by simp) rfl) rfl rfl
                  generalize hA : mkAct _ _ g = A
                  have h71 : A.tmps[71]?.getD undef = .bool false := by rw [← hA, mkAct_in2 _ _ _ _ rfl rfl]; exact e71
                  have h75 : A.tmps[75]?.getD undef = .bool false := by rw [← hA, mkAct_in2 _ _ _ _ rfl rfl]; exact e75
                  refine step_val (v := .bool false) (w' := w') ?_ ⟨rfl, Ext.refl _ _⟩
                  simp [execOp, h71, h75, Result.andThen, go_sem]
                case f23_6f =>
                  intro f v g w' hJ hfi hb hd
                  refine arm_u rfl ?_
                  refine op_run rfl ?_
                  have e76 : g 76 = .bool false := value_u (hd ⟨22, .data⟩ (by simp) rfl) rfl rfl
                  generalize hA : mkAct _ _ g = A
                  have h76 : A.tmps[76]?.getD undef = .bool false := by rw [← hA, mkAct_in2 _ _ _ _ rfl rfl]; exact e76
                  refine step_val (v := .bool false) (w' := w') ?_ ⟨rfl, Ext.refl _ _⟩
                  simp [execOp, h76, Result.andThen, go_sem]
                case f24_6f =>
                  intro f v g w' hJ hfi hb hd
                  refine arm_u rfl ?_
                  have eg : g 77 = .bool false := value_u (hd ⟨23, .guard⟩ (by simp) rfl) rfl rfl
                  refine op_yes rfl rfl rfl rfl eg ?_
                  generalize hA : mkAct _ _ g = A
                  have h6 : A.tmps[6]?.getD undef = .pointer (some ⟨L, 0, none⟩) := by rw [← hA]; exact mkAct_out2 _ _ _ _ _ rfl rfl
                  refine step_val (v := .pointer (some ⟨L, 3, none⟩)) (w' := w') ?_ ⟨rfl, Ext.refl _ _⟩
                  simp [execOp, h6, Result.andThen, go_sem]
                case f25_6f =>
                  intro f v g w' hJ hfi hb hd
                  refine arm_u rfl ?_
                  have eg : g 77 = .bool false := value_u (hd ⟨23, .guard⟩ (by simp) rfl) rfl rfl
                  refine op_yes rfl rfl rfl rfl eg ?_
                  have e78 : g 78 = .pointer (some ⟨L, 3, none⟩) := value_u (hd ⟨24, .data⟩ (by simp) rfl) rfl rfl
                  generalize hA : mkAct _ _ g = A
                  have h78 : A.tmps[78]?.getD undef = .pointer (some ⟨L, 3, none⟩) := by rw [← hA, mkAct_in2 _ _ _ _ rfl rfl]; exact e78
                  have c := (cm6 w' hJ.1).2.2.2
                  refine step_val (v := .string ⟨rd.toArray⟩) (w' := w') ?_ ⟨rfl, Ext.refl _ _⟩
                  simp [execOp, h78, c, Result.andThen, go_sem]
                case f26_6f =>
                  intro f v g w' hJ hfi hb hd
                  refine arms_u rfl ?_
                  have eg : g 77 = .bool false := value_u (hd ⟨23, .guard⟩ (by simp) rfl) rfl rfl
                  refine op_yes rfl rfl rfl rfl eg ?_
                  have e79 : g 79 = .string ⟨rd.toArray⟩ := value_u (hd ⟨25, .data⟩ (by simp) rfl) rfl rfl
                  generalize hA : mkAct _ _ g = A
                  have h79 : A.tmps[79]?.getD undef = .string ⟨rd.toArray⟩ := by rw [← hA, mkAct_in2 _ _ _ _ rfl rfl]; exact e79
                  have hxa : Ext [] w' (w'.alloc (.cells #[.string ⟨rd.toArray⟩] 9)) := (Ext.refl _ _).alloc _
                  refine step_val (v := .slice (some ⟨w'.heap.size, 0, none⟩) 1 1) (w' := w'.alloc (.cells #[.string ⟨rd.toArray⟩] 9)) ?_ ⟨_, rfl, hJ.1.then0 hxa, fun _ => ⟨w'.heap.size, setU_same _ _ _, Blk.new w' 9 #[str rd]⟩⟩
                  simp [execOp, h79, Result.andThen, go_sem]
                case f27_6f =>
                  intro f v g w' hJ hfi hb hd
                  refine arm_u rfl ?_
                  have eg : g 77 = .bool false := value_u (hd ⟨23, .guard⟩ (by simp) rfl) rfl rfl
                  refine op_yes rfl rfl rfl rfl eg ?_
                  obtain ⟨hf80, e80⟩ := special_u (hd ⟨26, .data⟩ (by simp) rfl) rfl rfl
                  replace e80 : g 80 = v 26 := e80
                  obtain ⟨z, ez, hz⟩ := hJ.2 hf80
                  rw [ez] at e80
                  generalize hA : mkAct _ _ g = A
                  have h80 : A.tmps[80]?.getD undef = .slice (some ⟨z, 0, none⟩) 1 1 := by rw [← hA, mkAct_in2 _ _ _ _ rfl rfl]; exact e80
                  refine float_u (fun K hK => ?_)
                  go_simp
                  refine (ofStr_any rd w' z hz (by omega)).mono ?_
                  rintro e w2 ⟨rfl, hx2⟩
                  exact hK w2 hx2
                case f28_6f =>
                  intro f v g w' hJ hfi hb hd
                  refine arm_u rfl ?_
                  have eg : g 77 = .bool false := value_u (hd ⟨23, .guard⟩ (by simp) rfl) rfl rfl
                  refine op_yes rfl rfl rfl rfl eg ?_
                  generalize hA : mkAct _ _ g = A
                  have h0 : A.tmps[0]?.getD undef = .pointer (some ⟨q, 0, none⟩) := by rw [← hA]; exact mkAct_out2 _ _ _ _ _ rfl rfl
                  refine step_val (v := .pointer (some ⟨q, 0, none⟩)) (w' := w') ?_ ⟨rfl, Ext.refl _ _⟩
                  simp [execOp, h0, Result.andThen, go_sem]
                case f29_6f =>
                  intro f v g w' hJ hfi hb hd
                  refine arm_u rfl ?_
                  have eg : g 77 = .bool false := value_u (hd ⟨23, .guard⟩ (by simp) rfl) rfl rfl
                  refine op_yes rfl rfl rfl rfl eg ?_
                  have e82 : g 82 = .pointer (some ⟨q, 0, none⟩) := value_u (hd ⟨28, .data⟩ (by simp) rfl) rfl rfl
                  generalize hA : mkAct _ _ g = A
                  have h82 : A.tmps[82]?.getD undef = .pointer (some ⟨q, 0, none⟩) := by rw [← hA, mkAct_in2 _ _ _ _ rfl rfl]; exact e82
                  refine step_val (v := .pointer (some ⟨q, 0, none⟩)) (w' := w') ?_ ⟨rfl, Ext.refl _ _⟩
                  simp [execOp, h82, Result.andThen, go_sem]
                case f30_6f =>
                  intro f v g w' hJ hfi hb hd
                  refine arm_u rfl ?_
                  have eg : g 77 = .bool false := value_u (hd ⟨23, .guard⟩ (by simp) rfl) rfl rfl
                  refine op_yes rfl rfl rfl rfl eg ?_
                  have e83 : g 83 = .pointer (some ⟨q, 0, none⟩) := value_u (hd ⟨29, .data⟩ (by simp) rfl) rfl rfl
                  generalize hA : mkAct _ _ g = A
                  have h83 : A.tmps[83]?.getD undef = .pointer (some ⟨q, 0, none⟩) := by rw [← hA, mkAct_in2 _ _ _ _ rfl rfl]; exact e83
                  refine step_val (v := .pointer (some ⟨q, 3, none⟩)) (w' := w') ?_ ⟨rfl, Ext.refl _ _⟩
                  simp [execOp, h83, Result.andThen, go_sem]
                case f31_6f =>
                  intro f v g w' hJ hfi hb hd
                  refine arm_u rfl ?_
                  have eg : g 77 = .bool false := value_u (hd ⟨23, .guard⟩ (by simp) rfl) rfl rfl
                  refine op_yes rfl rfl rfl rfl eg ?_
                  have e84 : g 84 = .pointer (some ⟨q, 3, none⟩) := value_u (hd ⟨30, .data⟩ (by simp) rfl) rfl rfl
                  generalize hA : mkAct _ _ g = A
                  have h84 : A.tmps[84]?.getD undef = .pointer (some ⟨q, 3, none⟩) := by rw [← hA, mkAct_in2 _ _ _ _ rfl rfl]; exact e84
                  refine step_val (v := .pointer (some ⟨q, 6, none⟩)) (w' := w') ?_ ⟨rfl, Ext.refl _ _⟩
                  simp [execOp, h84, Result.andThen, go_sem]
                case f32_6f =>
                  intro f v g w' hJ hfi hb hd
                  refine arm_u rfl ?_
                  have eg : g 77 = .bool false := value_u (hd ⟨23, .guard⟩ (by simp) rfl) rfl rfl
                  refine op_yes rfl rfl rfl rfl eg ?_
                  have e85 : g 85 = .pointer (some ⟨q, 6, none⟩) := value_u (hd ⟨31, .data⟩ (by simp) rfl) rfl rfl
                  generalize hA : mkAct _ _ g = A
                  have h85 : A.tmps[85]?.getD undef = .pointer (some ⟨q, 6, none⟩) := by rw [← hA, mkAct_in2 _ _ _ _ rfl rfl]; exact e85
                  have c := (cq6 w' hJ.1).2.2.2.2.2.2
                  refine step_val (v := .slice (some ⟨g0, off, none⟩) m cap) (w' := w') ?_ ⟨rfl, Ext.refl _ _⟩
                  simp [execOp, h85, c, Result.andThen, go_sem]
                case f33_6f =>
                  intro f v g w' hJ hfi hb hd
                  refine arm_u rfl ?_
                  have eg : g 77 = .bool false := value_u (hd ⟨23, .guard⟩ (by simp) rfl) rfl rfl
                  refine op_yes rfl rfl rfl rfl eg ?_
                  generalize hA : mkAct _ _ g = A
                  have h1 : A.tmps[1]?.getD undef = .int .i64 (kn : Int) := by rw [← hA]; exact mkAct_out2 _ _ _ _ _ rfl rfl
                  refine step_val (v := .int .i64 (kn : Int)) (w' := w') ?_ ⟨rfl, Ext.refl _ _⟩
                  simp [execOp, h1, Result.andThen, go_sem]
                case f34_6f =>
                  intro f v g w' hJ hfi hb hd
                  refine arm_u rfl ?_
                  have eg : g 77 = .bool false := value_u (hd ⟨23, .guard⟩ (by simp) rfl) rfl rfl
                  refine op_yes rfl rfl rfl rfl eg ?_
                  have e86 : g 86 = .slice (some ⟨g0, off, none⟩) m cap := value_u (hd ⟨32, .data⟩ (by simp) rfl) rfl rfl
                  have e87 : g 87 = .int .i64 (kn : Int) := value_u (hd ⟨33, .data⟩ (by simp) rfl) rfl rfl
                  generalize hA : mkAct _ _ g = A
                  have h86 : A.tmps[86]?.getD undef = .slice (some ⟨g0, off, none⟩) m cap := by rw [← hA, mkAct_in2 _ _ _ _ rfl rfl]; exact e86
                  have h87 : A.tmps[87]?.getD undef = .int .i64 (kn : Int) := by rw [← hA, mkAct_in2 _ _ _ _ rfl rfl]; exact e87
                  refine step_val (v := .pointer (some ⟨g0, off + kn, none⟩)) (w' := w') ?_ ⟨rfl, Ext.refl _ _⟩
                  simp [execOp, hkl, h86, h87, Result.andThen, go_sem]
                case f35_6f =>
                  intro f v g w' hJ hfi hb hd
                  refine arm_u rfl ?_
                  have eg : g 77 = .bool false := value_u (hd ⟨23, .guard⟩ (by simp) rfl) rfl rfl
                  refine op_yes rfl rfl rfl rfl eg ?_
                  have e88 : g 88 = .pointer (some ⟨g0, off + kn, none⟩) := value_u (hd ⟨34, .data⟩ (by simp) rfl) rfl rfl
                  generalize hA : mkAct _ _ g = A
                  have h88 : A.tmps[88]?.getD undef = .pointer (some ⟨g0, off + kn, none⟩) := by rw [← hA, mkAct_in2 _ _ _ _ rfl rfl]; exact e88
                  have c := cs6 w' hJ.1
                  refine step_val (v := .int .u32 (u32v (sumOf rd))) (w' := w') ?_ ⟨rfl, Ext.refl _ _⟩
                  simp [execOp, h88, c, Result.andThen, go_sem]
                case f36_6f =>
                  intro f v g w' hJ hfi hb hd
                  refine arm_u rfl ?_
                  have eg : g 77 = .bool false := value_u (hd ⟨23, .guard⟩ (by simp) rfl) rfl rfl
                  refine op_yes rfl rfl rfl rfl eg ?_
                  have e81 : g 81 = .int .u32 (u32v (sumOf rd)) := value_u (hd ⟨27, .data⟩ (by simp) rfl) rfl rfl
                  have e89 : g 89 = .int .u32 (u32v (sumOf rd)) := value_u (hd ⟨35, .data⟩ (by simp) rfl) rfl rfl
                  generalize hA : mkAct _ _ g = A
                  have h81 : A.tmps[81]?.getD undef = .int .u32 (u32v (sumOf rd)) := by rw [← hA, mkAct_in2 _ _ _ _ rfl rfl]; exact e81
                  have h89 : A.tmps[89]?.getD undef = .int .u32 (u32v (sumOf rd)) := by rw [← hA, mkAct_in2 _ _ _ _ rfl rfl]; exact e89
                  refine step_val (v := .bool false) (w' := w') ?_ ⟨rfl, Ext.refl _ _⟩
                  simp [execOp, h81, h89, Result.andThen, go_sem]
                case f37_6f =>
                  intro f v g w' hJ hfi hb hd
                  refine arm_u rfl ?_
                  refine op_run rfl ?_
                  have e77 : g 77 = .bool false := value_u (hd ⟨23, .data⟩ (by simp) rfl) rfl rfl
                  have e90 : g 90 = .bool false := value_u (hd ⟨36, .data⟩ (by simp) rfl) rfl rfl
                  generalize hA : mkAct _ _ g = A
                  have h77 : A.tmps[77]?.getD undef = .bool false := by rw [← hA, mkAct_in2 _ _ _ _ rfl rfl]; exact e77
                  have h90 : A.tmps[90]?.getD undef = .bool false := by rw [← hA, mkAct_in2 _ _ _ _ rfl rfl]; exact e90
                  refine step_val (v := .bool false) (w' := w') ?_ ⟨rfl, Ext.refl _ _⟩
                  simp [execOp, h77, h90, Result.andThen, go_sem]
                case f38_6f =>
                  intro f v g w' hJ hfi hb hd
                  refine arm_u rfl ?_
                  refine op_run rfl ?_
                  have e91 : g 91 = .bool false := value_u (hd ⟨37, .data⟩ (by simp) rfl) rfl rfl
                  generalize hA : mkAct _ _ g = A
                  have h91 : A.tmps[91]?.getD undef = .bool false := by rw [← hA, mkAct_in2 _ _ _ _ rfl rfl]; exact e91
                  refine step_val (v := .bool false) (w' := w') ?_ ⟨rfl, Ext.refl _ _⟩
                  simp [execOp, h91, Result.andThen, go_sem]
              intro f v g wm hJ hk
              have e53 : g 53 = .bool false := value_u (hk 38 (by decide)) rfl rfl
              have hxe : Ext [] wn wm := by first | exact hJ | exact hJ.1
              clear hk hJ cq6 cs6 cm6 cq cs
              unfold mkAct; simp only [List.zipIdx_cons, List.zipIdx_nil, List.map_cons, List.map_nil, Nat.zero_add, Nat.reduceAdd, List.contains_cons, List.contains_nil, Nat.reduceBEq, Bool.or_false, Bool.or_true, ↓reduceIte, Bool.false_eq_true]
              rw [e53]
              go_wp2_with fail
              go_meet
              exact ⟨rfl, hxe⟩
            · obtain rfl : T = true := by rw [HT.out]; exact decide_eq_true (.inr (.inr (.inr (.inr e5))))
              have e5b : u32v (sumOf rd) ≠ u32v sm := fun h => e5 (u32v_inj.1 h)
              refine wp_region_u [54, 55, 56, 57, 58, 59, 60, 61, 62, 63, 64, 65, 66, 67, 68, 69, 70, 71, 72, 73, 74, 75, 76, 77, 78, 79, 80, 81, 82, 83, 84, 85, 86, 87, 88, 89, 90, 91, 53] [26] (fun n => match n with | 0 => .int .i64 1 | 1 => .bool false | 2 => .bool false | 3 => .pointer (some ⟨L, 0, none⟩) | 4 => .int .i64 5 | 5 => .bool false | 6 => .bool false | 7 => .bool false | 8 => .pointer (some ⟨L, 1, none⟩) | 9 => .int .i64 ri | 10 => .pointer (some ⟨q, 0, none⟩) | 11 => .pointer (some ⟨q, 0, none⟩) | 12 => .pointer (some ⟨q, 3, none⟩) | 13 => .pointer (some ⟨q, 3, none⟩) | 14 => .int .i64 ri | 15 => .bool false | 16 => .bool false | 17 => .bool false | 18 => .pointer (some ⟨L, 2, none⟩) | 19 => .int .i64 (kn : Int) | 20 => .int .i64 (kn : Int) | 21 => .bool false | 22 => .bool false | 23 => .bool false | 24 => .pointer (some ⟨L, 3, none⟩) | 25 => .string ⟨rd.toArray⟩ | 27 => .int .u32 (u32v (sumOf rd)) | 28 => .pointer (some ⟨q, 0, none⟩) | 29 => .pointer (some ⟨q, 0, none⟩) | 30 => .pointer (some ⟨q, 3, none⟩) | 31 => .pointer (some ⟨q, 6, none⟩) | 32 => .slice (some ⟨g0, off, none⟩) m cap | 33 => .int .i64 (kn : Int) | 34 => .pointer (some ⟨g0, off + kn, none⟩) | 35 => .int .u32 (u32v sm) | 36 => .bool true | 37 => .bool true | 38 => .bool true | _ => undef) (fun f v wx => Ext [] wn wx ∧ (f 26 = true → ∃ z, v 26 = .slice (some ⟨z, 0, none⟩) 1 1 ∧ Blk wx z 9 [str rd])) (by kernel_rfl) (by kernel_rfl) ?hst0_6e ?h00_6e ?hst_6e ?hend_6e
              case hst0_6e =>
                rintro f v w w' ⟨hx, j3⟩ hx2
                refine ⟨hx.then0 hx2, fun h => ?_⟩
                obtain ⟨z, ez, hz⟩ := j3 h
                exact ⟨z, ez, Blk.keep hz hx2 List.not_mem_nil⟩
              case h00_6e =>
                exact ⟨Ext.refl _ _, fun h => (by cases h)⟩
              case hst_6e =>
                refine ⟨?f0_6e, ?f1_6e, ?f2_6e, ?f3_6e, ?f4_6e, ?f5_6e, ?f6_6e, ?f7_6e, ?f8_6e, ?f9_6e, ?f10_6e, ?f11_6e, ?f12_6e, ?f13_6e, ?f14_6e, ?f15_6e, ?f16_6e, ?f17_6e, ?f18_6e, ?f19_6e, ?f20_6e, ?f21_6e, ?f22_6e, ?f23_6e, ?f24_6e, ?f25_6e, ?f26_6e, ?f27_6e, ?f28_6e, ?f29_6e, ?f30_6e, ?f31_6e, ?f32_6e, ?f33_6e, ?f34_6e, ?f35_6e, ?f36_6e, ?f37_6e, ?f38_6e, trivial⟩
                case f0_6e =>
                  intro f v g w' hJ hfi hb hd
                  refine arm_u rfl ?_
                  refine op_run rfl ?_
                  generalize hA : mkAct _ _ g = A
                  have h7 : A.tmps[7]?.getD undef = .int .i64 1 := by rw [← hA]; exact mkAct_out2 _ _ _ _ _ rfl rfl
                  refine step_val (v := .int .i64 1) (w' := w') ?_ ⟨rfl, Ext.refl _ _⟩
                  simp [execOp, h7, Result.andThen, go_sem]
                case f1_6e =>
                  intro f v g w' hJ hfi hb hd
                  refine arm_u rfl ?_
                  refine op_run rfl ?_
                  have e54 : g 54 = .int .i64 1 := value_u (hd ⟨0, .data⟩ (by simp) rfl) rfl rfl
                  generalize hA : mkAct _ _ g = A
                  have h54 : A.tmps[54]?.getD undef = .int .i64 1 := by rw [← hA, mkAct_in2 _ _ _ _ rfl rfl]; exact e54
                  refine step_val (v := .bool false) (w' := w') ?_ ⟨rfl, Ext.refl _ _⟩
                  simp [execOp, h54, Result.andThen, go_sem]
                case f2_6e =>
                  intro f v g w' hJ hfi hb hd
                  refine arm_u rfl ?_
                  refine op_run rfl ?_
                  have e55 : g 55 = .bool false := value_u (hd ⟨1, .data⟩ (by simp) rfl) rfl rfl
                  generalize hA : mkAct _ _ g = A
                  have h55 : A.tmps[55]?.getD undef = .bool false := by rw [← hA, mkAct_in2 _ _ _ _ rfl rfl]; exact e55
                  refine step_val (v := .bool false) (w' := w') ?_ ⟨rfl, Ext.refl _ _⟩
                  simp [execOp, h55, Result.andThen, go_sem]
                case f3_6e =>
                  intro f v g w' hJ hfi hb hd
                  refine arm_u rfl ?_
                  have eg : g 56 = .bool false := value_u (hd ⟨2, .guard⟩ (by simp) rfl) rfl rfl
                  refine op_yes rfl rfl rfl rfl eg ?_
                  generalize hA : mkAct _ _ g = A
                  have h6 : A.tmps[6]?.getD undef = .pointer (some ⟨L, 0, none⟩) := by rw [← hA]; exact mkAct_out2 _ _ _ _ _ rfl rfl
                  refine step_val (v := .pointer (some ⟨L, 0, none⟩)) (w' := w') ?_ ⟨rfl, Ext.refl _ _⟩
                  simp [execOp, h6, Result.andThen, go_sem]
                case f4_6e =>
                  intro f v g w' hJ hfi hb hd
                  refine arm_u rfl ?_
                  have eg : g 56 = .bool false := value_u (hd ⟨2, .guard⟩ (by simp) rfl) rfl rfl
                  refine op_yes rfl rfl rfl rfl eg ?_
                  have e57 : g 57 = .pointer (some ⟨L, 0, none⟩) := value_u (hd ⟨3, .data⟩ (by simp) rfl) rfl rfl
                  generalize hA : mkAct _ _ g = A
                  have h57 : A.tmps[57]?.getD undef = .pointer (some ⟨L, 0, none⟩) := by rw [← hA, mkAct_in2 _ _ _ _ rfl rfl]; exact e57
                  have c := (cm6 w' hJ.1).1
                  refine step_val (v := .int .i64 5) (w' := w') ?_ ⟨rfl, Ext.refl _ _⟩
                  simp [execOp, h57, c, Result.andThen, go_sem]
                case f5_6e =>
                  intro f v g w' hJ hfi hb hd
                  refine arm_u rfl ?_
                  have eg : g 56 = .bool false := value_u (hd ⟨2, .guard⟩ (by simp) rfl) rfl rfl
                  refine op_yes rfl rfl rfl rfl eg ?_
                  have e58 : g 58 = .int .i64 5 := value_u (hd ⟨4, .data⟩ (by simp) rfl) rfl rfl
                  generalize hA : mkAct _ _ g = A
                  have h58 : A.tmps[58]?.getD undef = .int .i64 5 := by rw [← hA, mkAct_in2 _ _ _ _ rfl rfl]; exact e58
                  refine step_val (v := .bool false) (w' := w') ?_ ⟨rfl, Ext.refl _ _⟩
                  simp [execOp, h58, Result.andThen, go_sem]
                case f6_6e =>
                  intro f v g w' hJ hfi hb hd
                  refine arm_u rfl ?_
                  refine op_run rfl ?_
                  have e56 : g 56 = .bool false := value_u (hd ⟨2, .data⟩ (by simp) rfl) rfl rfl
                  have e59 : g 59 = .bool false := value_u (hd ⟨5, .data⟩ (by simp) rfl) rfl rfl
                  generalize hA : mkAct _ _ g = A
                  have h56 : A.tmps[56]?.getD undef = .bool false := by rw [← hA, mkAct_in2 _ _ _ _ rfl rfl]; exact e56
                  have h59 : A.tmps[59]?.getD undef = .bool false := by rw [← hA, mkAct_in2 _ _ _ _ rfl rfl]; exact e59
                  refine step_val (v := .bool false) (w' := w') ?_ ⟨rfl, Ext.refl _ _⟩
                  simp [execOp, h56, h59, Result.andThen, go_sem]
                case f7_6e =>
                  intro f v g w' hJ hfi hb hd
                  refine arm_u rfl ?_
                  refine op_run rfl ?_
                  have e60 : g 60 = .bool false := value_u (hd ⟨6, .data⟩ (by simp) rfl) rfl rfl
                  generalize hA : mkAct _ _ g = A
                  have h60 : A.tmps[60]?.getD undef = .bool false := by rw [← hA, mkAct_in2 _ _ _ _ rfl rfl]; exact e60
                  refine step_val (v := .bool false) (w' := w') ?_ ⟨rfl, Ext.refl _ _⟩
                  simp [execOp, h60, Result.andThen, go_sem]
                case f8_6e =>
                  intro f v g w' hJ hfi hb hd
                  refine arm_u rfl ?_
                  have eg : g 61 = .bool false := value_u (hd ⟨7, .guard⟩ (by simp) rfl) rfl rfl
                  refine op_yes rfl rfl rfl rfl eg ?_
                  generalize hA : mkAct _ _ g = A
                  have h6 : A.tmps[6]?.getD undef = .pointer (some ⟨L, 0, none⟩) := by rw [← hA]; exact mkAct_out2 _ _ _ _ _ rfl rfl
                  refine step_val (v := .pointer (some ⟨L, 1, none⟩)) (w' := w') ?_ ⟨rfl, Ext.refl _ _⟩
                  simp [execOp, h6, Result.andThen, go_sem]
                case f9_6e =>
                  intro f v g w' hJ hfi hb hd
                  refine arm_u rfl ?_
                  have eg : g 61 = .bool false := value_u (hd ⟨7, .guard⟩ (by simp) rfl) rfl rfl
                  refine op_yes rfl rfl rfl rfl eg ?_
                  have e62 : g 62 = .pointer (some ⟨L, 1, none⟩) := value_u (hd ⟨8, .data⟩ (by simp) rfl) rfl rfl
                  generalize hA : mkAct _ _ g = A
                  have h62 : A.tmps[62]?.getD undef = .pointer (some ⟨L, 1, none⟩) := by rw [← hA, mkAct_in2 _ _ _ _ rfl rfl]; exact e62
                  have c := (cm6 w' hJ.1).2.1
                  refine step_val (v := .int .i64 ri) (w' := w') ?_ ⟨rfl, Ext.refl _ _⟩
                  simp [execOp, h62, c, Result.andThen, go_sem]
                case f10_6e =>
                  intro f v g w' hJ hfi hb hd
                  refine arm_u rfl ?_
                  have eg : g 61 = .bool false := value_u (hd ⟨7, .guard⟩ (by simp) rfl) rfl rfl
                  refine op_yes rfl rfl rfl rfl eg ?_
                  generalize hA : mkAct _ _ g = A
                  have h0 : A.tmps[0]?.getD undef = .pointer (some ⟨q, 0, none⟩) := by rw [← hA]; exact mkAct_out2 _ _ _ _ _ rfl rfl
                  refine step_val (v := .pointer (some ⟨q, 0, none⟩)) (w' := w') ?_ ⟨rfl, Ext.refl _ _⟩
                  simp [execOp, h0, Result.andThen, go_sem]
                case f11_6e =>
                  intro f v g w' hJ hfi hb hd
                  refine arm_u rfl ?_
                  have eg : g 61 = .bool false := value_u (hd ⟨7, .guard⟩ (by simp) rfl) rfl rfl
                  refine op_yes rfl rfl rfl rfl eg ?_
                  have e64 : g 64 = .pointer (some ⟨q, 0, none⟩) := value_u (hd ⟨10, .data⟩ (by simp) rfl) rfl rfl
                  generalize hA : mkAct _ _ g = A
                  have h64 : A.tmps[64]?.getD undef = .pointer (some ⟨q, 0, none⟩) := by rw [← hA, mkAct_in2 _ _ _ _ rfl rfl]; exact e64
                  refine step_val (v := .pointer (some ⟨q, 0, none⟩)) (w' := w') ?_ ⟨rfl, Ext.refl _ _⟩
                  simp [execOp, h64, Result.andThen, go_sem]
                case f12_6e =>
                  intro f v g w' hJ hfi hb hd
                  refine arm_u rfl ?_
                  have eg : g 61 = .bool false := value_u (hd ⟨7, .guard⟩ (by simp) rfl) rfl rfl
                  refine op_yes rfl rfl rfl rfl eg ?_
                  have e65 : g 65 = .pointer (some ⟨q, 0, none⟩) := value_u (hd ⟨11, .data⟩ (by simp) rfl) rfl rfl
                  generalize hA : mkAct _ _ g = A
                  have h65 : A.tmps[65]?.getD undef = .pointer (some ⟨q, 0, none⟩) := by rw [← hA, mkAct_in2 _ _ _ _ rfl rfl]; exact e65
                  refine step_val (v := .pointer (some ⟨q, 3, none⟩)) (w' := w') ?_ ⟨rfl, Ext.refl _ _⟩
                  simp [execOp, h65, Result.andThen, go_sem]
                case f13_6e =>
                  intro f v g w' hJ hfi hb hd
                  refine arm_u rfl ?_
                  have eg : g 61 = .bool false := value_u (hd ⟨7, .guard⟩ (by simp) rfl) rfl rfl
                  refine op_yes rfl rfl rfl rfl eg ?_
                  have e66 : g 66 = .pointer (some ⟨q, 3, none⟩) := value_u (hd ⟨12, .data⟩ (by simp) rfl) rfl rfl
                  generalize hA : mkAct _ _ g = A
                  have h66 : A.tmps[66]?.getD undef = .pointer (some ⟨q, 3, none⟩) := by rw [← hA, mkAct_in2 _ _ _ _ rfl rfl]; exact e66
                  refine step_val (v := .pointer (some ⟨q, 3, none⟩)) (w' := w') ?_ ⟨rfl, Ext.refl _ _⟩
                  simp [execOp, h66, Result.andThen, go_sem]
                case f14_6e =>
                  intro f v g w' hJ hfi hb hd
                  refine arm_u rfl ?_
                  have eg : g 61 = .bool false := value_u (hd ⟨7, .guard⟩ (by simp) rfl) rfl rfl
                  refine op_yes rfl rfl rfl rfl eg ?_
                  have e67 : g 67 = .pointer (some ⟨q, 3, none⟩) := value_u (hd ⟨13, .data⟩ (by simp) rfl) rfl rfl
                  generalize hA : mkAct _ _ g = A
                  have h67 : A.tmps[67]?.getD undef = .pointer (some ⟨q, 3, none⟩) := by rw [← hA, mkAct_in2 _ _ _ _ rfl rfl]; exact e67
                  have c := (cq6 w' hJ.1).2.2.2.1
                  refine step_val (v := .int .i64 ri) (w' := w') ?_ ⟨rfl, Ext.refl _ _⟩
                  simp [execOp, h67, c, Result.andThen, go_sem]
                case f15_6e =>
                  intro f v g w' hJ hfi hb hd
                  refine arm_u rfl ?_
                  have eg : g 61 = .bool false := value_u (hd ⟨7, .guard⟩ (by simp) rfl) rfl rfl
                  refine op_yes rfl rfl rfl rfl eg ?_
                  have e63 : g 63 = .int .i64 ri := value_u (hd ⟨9, .data⟩ (by simp) rfl) rfl rfl
                  have e68 : g 68 = .int .i64 ri := value_u (hd ⟨14, .data⟩ (by simp) rfl) rfl rfl
                  generalize hA : mkAct _ _ g = A
                  have h63 : A.tmps[63]?.getD undef = .int .i64 ri := by rw [← hA, mkAct_in2 _ _ _ _ rfl rfl]; exact e63
                  have h68 : A.tmps[68]?.getD undef = .int .i64 ri := by rw [← hA, mkAct_in2 _ _ _ _ rfl rfl]; exact e68
                  refine step_val (v := .bool false) (w' := w') ?_ ⟨rfl, Ext.refl _ _⟩
                  simp [execOp, h63, h68, Result.andThen, go_sem]
                case f16_6e =>
                  intro f v g w' hJ hfi hb hd
                  refine arm_u rfl ?_
                  refine op_run rfl ?_
                  have e61 : g 61 = .bool false := value_u (hd ⟨7, .data⟩ (by simp) rfl) rfl rfl
                  have e69 : g 69 = .bool false := value_u (hd ⟨15, .data⟩ (by simp) rfl) rfl rfl
                  generalize hA : mkAct _ _ g = A
                  have h61 : A.tmps[61]?.getD undef = .bool false := by rw [← hA, mkAct_in2 _ _ _ _ rfl rfl]; exact e61
                  have h69 : A.tmps[69]?.getD undef = .bool false := by rw [← hA, mkAct_in2 _ _ _ _ rfl rfl]; exact e69
                  refine step_val (v := .bool false) (w' := w') ?_ ⟨rfl, Ext.refl _ _⟩
                  simp [execOp, h61, h69, Result.andThen, go_sem]
                case f17_6e =>
                  intro f v g w' hJ hfi hb hd
                  refine arm_u rfl ?_
                  refine op_run rfl ?_
                  have e70 : g 70 = .bool false := value_u (hd ⟨16, .data⟩ (by simp) rfl) rfl rfl
                  generalize hA : mkAct _ _ g = A
                  have h70 : A.tmps[70]?.getD undef = .bool false := by rw [← hA, mkAct_in2 _ _ _ _ rfl rfl]; exact e70
                  refine step_val (v := .bool false) (w' := w') ?_ ⟨rfl, Ext.refl _ _⟩
                  simp [execOp, h70, Result.andThen, go_sem]
                case f18_6e =>
                  intro f v g w' hJ hfi hb hd
                  refine arm_u rfl ?_
                  have eg : g 71 = .bool false := value_u (hd ⟨17, .guard⟩ (by simp) rfl) rfl rfl
                  refine op_yes rfl rfl rfl rfl eg ?_
                  generalize hA : mkAct _ _ g = A
                  have h6 : A.tmps[6]?.getD undef = .pointer (some ⟨L, 0, none⟩) := by rw [← hA]; exact mkAct_out2 _ _ _ _ _ rfl rfl
                  refine step_val (v := .pointer (some ⟨L, 2, none⟩)) (w' := w') ?_ ⟨rfl, Ext.refl _ _⟩
                  simp [execOp, h6, Result.andThen, go_sem]
                case f19_6e =>
                  intro f v g w' hJ hfi hb hd
                  refine arm_u rfl ?_
                  have eg : g 71 = .bool false := value_u (hd ⟨17, .guard⟩ (by simp) rfl) rfl rfl
                  refine op_yes rfl rfl rfl rfl eg ?_
                  have e72 : g 72 = .pointer (some ⟨L, 2, none⟩) := value_u (hd ⟨18, .data⟩ (by simp) rfl) rfl rfl
                  generalize hA : mkAct _ _ g = A
                  have h72 : A.tmps[72]?.getD undef = .pointer (some ⟨L, 2, none⟩) := by rw [← hA, mkAct_in2 _ _ _ _ rfl rfl]; exact e72
                  have c := (cm6 w' hJ.1).2.2.1
                  refine step_val (v := .int .i64 (kn : Int)) (w' := w') ?_ ⟨rfl, Ext.refl _ _⟩
                  simp [execOp, h72, c, Result.andThen, go_sem]
                case f20_6e =>
                  intro f v g w' hJ hfi hb hd
                  refine arm_u rfl ?_
                  have eg : g 71 = .bool false := value_u (hd ⟨17, .guard⟩ (by simp) rfl) rfl rfl
                  refine op_yes rfl rfl rfl rfl eg ?_
                  generalize hA : mkAct _ _ g = A
                  have h1 : A.tmps[1]?.getD undef = .int .i64 (kn : Int) := by rw [← hA]; exact mkAct_out2 _ _ _ _ _ rfl rfl
                  refine step_val (v := .int .i64 (kn : Int)) (w' := w') ?_ ⟨rfl, Ext.refl _ _⟩
                  simp [execOp, h1, Result.andThen, go_sem]
                case f21_6e =>
                  intro f v g w' hJ hfi hb hd
                  refine arm_u rfl ?_
                  have eg : g 71 = .bool false := value_u (hd ⟨17, .guard⟩ (by simp) rfl) rfl rfl
                  refine op_yes rfl rfl rfl rfl eg ?_
                  have e73 : g 73 = .int .i64 (kn : Int) := value_u (hd ⟨19, .data⟩ (by simp) rfl) rfl rfl
                  have e74 : g 74 = .int .i64 (kn : Int) := value_u (hd ⟨20, .data⟩ (by simp) rfl) rfl rfl
                  generalize hA : mkAct _ _ g = A
                  have h73 : A.tmps[73]?.getD undef = .int .i64 (kn : Int) := by rw [← hA, mkAct_in2 _ _ _ _ rfl rfl]; exact e73
                  have h74 : A.tmps[74]?.getD undef = .int .i64 (kn : Int) := by rw [← hA, mkAct_in2 _ _ _ _ rfl rfl]; exact e74
                  refine step_val (v := .bool false) (w' := w') ?_ ⟨rfl, Ext.refl _ _⟩
                  simp [execOp, h73, h74, Result.andThen, go_sem]
                case f22_6e =>
                  intro f v g w' hJ hfi hb hd
                  refine arm_u rfl ?_
                  refine op_run rfl ?_
                  have e71 : g 71 = .bool false := value_u (hd ⟨17, .data⟩ (by simp) rfl) rfl rfl
                  have e75 : g 75 = .bool false := value_u (hd ⟨21, .data⟩ (by simp) rfl) rfl rfl
                  generalize hA : mkAct _ _ g = A
                  have h71 : A.tmps[71]?.getD undef = .bool false := by rw [← hA, mkAct_in2 _ _ _ _ rfl rfl]; exact e71
                  have h75 : A.tmps[75]?.getD undef = .bool false := by rw [← hA, mkAct_in2 _ _ _ _ rfl rfl]; exact e75
                  refine step_val (v := .bool false) (w' := w') ?_ ⟨rfl, Ext.refl _ _⟩
                  simp [execOp, h71, h75, Result.andThen, go_sem]
                case f23_6e =>
                  intro f v g w' hJ hfi hb hd
                  refine arm_u rfl ?_
                  refine op_run rfl ?_
                  have e76 : g 76 = .bool false := value_u (hd ⟨22, .data⟩ (by simp) rfl) rfl rfl
                  generalize hA : mkAct _ _ g = A
                  have h76 : A.tmps[76]?.getD undef = .bool false := by rw [← hA, mkAct_in2 _ _ _ _ rfl rfl]; exact e76
                  refine step_val (v := .bool false) (w' := w') ?_ ⟨rfl, Ext.refl _ _⟩
                  simp [execOp, h76, Result.andThen, go_sem]
                case f24_6e =>
                  intro f v g w' hJ hfi hb hd
                  refine arm_u rfl ?_
                  have eg : g 77 = .bool false := value_u (hd ⟨23, .guard⟩ (by simp) rfl) rfl rfl
                  refine op_yes rfl rfl rfl rfl eg ?_
                  generalize hA : mkAct _ _ g = A
                  have h6 : A.tmps[6]?.getD undef = .pointer (some ⟨L, 0, none⟩) := by rw [← hA]; exact mkAct_out2 _ _ _ _ _ rfl rfl
                  refine step_val (v := .pointer (some ⟨L, 3, none⟩)) (w' := w') ?_ ⟨rfl, Ext.refl _ _⟩
                  simp [execOp, h6, Result.andThen, go_sem]
                case f25_6e =>
                  intro f v g w' hJ hfi hb hd
                  refine arm_u rfl ?_
                  have eg : g 77 = .bool false := value_u (hd ⟨23, .guard⟩ (by simp) rfl) rfl rfl
                  refine op_yes rfl rfl rfl rfl eg ?_
                  have e78 : g 78 = .pointer (some ⟨L, 3, none⟩) := value_u (hd ⟨24, .data⟩ (by simp) rfl) rfl rfl
                  generalize hA : mkAct _ _ g = A
                  have h78 : A.tmps[78]?.getD undef = .pointer (some ⟨L, 3, none⟩) := by rw [← hA, mkAct_in2 _ _ _ _ rfl rfl]; exact e78
                  have c := (cm6 w' hJ.1).2.2.2
                  refine step_val (v := .string ⟨rd.toArray⟩) (w' := w') ?_ ⟨rfl, Ext.refl _ _⟩
                  simp [execOp, h78, c, Result.andThen, go_sem]
                case f26_6e =>
                  intro f v g w' hJ hfi hb hd
                  refine arms_u rfl ?_
                  have eg : g 77 = .bool false := value_u (hd ⟨23, .guard⟩ (by simp) rfl) rfl rfl
                  refine op_yes rfl rfl rfl rfl eg ?_
                  have e79 : g 79 = .string ⟨rd.toArray⟩ := value_u (hd ⟨25, .data⟩ (by simp) rfl) rfl rfl
                  generalize hA : mkAct _ _ g = A
                  have h79 : A.tmps[79]?.getD undef = .string ⟨rd.toArray⟩ := by rw [← hA, mkAct_in2 _ _ _ _ rfl rfl]; exact e79
                  have hxa : Ext [] w' (w'.alloc (.cells #[.string ⟨rd.toArray⟩] 9)) := (Ext.refl _ _).alloc _
                  refine step_val (v := .slice (some ⟨w'.heap.size, 0, none⟩) 1 1) (w' := w'.alloc (.cells #[.string ⟨rd.toArray⟩] 9)) ?_ ⟨_, rfl, hJ.1.then0 hxa, fun _ => ⟨w'.heap.size, setU_same _ _ _, Blk.new w' 9 #[str rd]⟩⟩
                  simp [execOp, h79, Result.andThen, go_sem]
                case f27_6e =>
                  intro f v g w' hJ hfi hb hd
                  refine arm_u rfl ?_
                  have eg : g 77 = .bool false := value_u (hd ⟨23, .guard⟩ (by simp) rfl) rfl rfl
                  refine op_yes rfl rfl rfl rfl eg ?_
                  obtain ⟨hf80, e80⟩ := special_u (hd ⟨26, .data⟩ (by simp) rfl) rfl rfl
                  replace e80 : g 80 = v 26 := e80
                  obtain ⟨z, ez, hz⟩ := hJ.2 hf80
                  rw [ez] at e80
                  generalize hA : mkAct _ _ g = A
                  have h80 : A.tmps[80]?.getD undef = .slice (some ⟨z, 0, none⟩) 1 1 := by rw [← hA, mkAct_in2 _ _ _ _ rfl rfl]; exact e80
                  refine float_u (fun K hK => ?_)
                  go_simp
                  refine (ofStr_any rd w' z hz (by omega)).mono ?_
                  rintro e w2 ⟨rfl, hx2⟩
                  exact hK w2 hx2
                case f28_6e =>
                  intro f v g w' hJ hfi hb hd
                  refine arm_u rfl ?_
                  have eg : g 77 = .bool false := value_u (hd ⟨23, .guard⟩ (by simp) rfl) rfl rfl
                  refine op_yes rfl rfl rfl rfl eg ?_
                  generalize hA : mkAct _ _ g = A
                  have h0 : A.tmps[0]?.getD undef = .pointer (some ⟨q, 0, none⟩) := by rw [← hA]; exact mkAct_out2 _ _ _ _ _ rfl rfl
                  refine step_val (v := .pointer (some ⟨q, 0, none⟩)) (w' := w') ?_ ⟨rfl, Ext.refl _ _⟩
                  simp [execOp, h0, Result.andThen, go_sem]
                case f29_6e =>
                  intro f v g w' hJ hfi hb hd
                  refine arm_u rfl ?_
                  have eg : g 77 = .bool false := value_u (hd ⟨23, .guard⟩ (by simp) rfl) rfl rfl
                  refine op_yes rfl rfl rfl rfl eg ?_
                  have e82 : g 82 = .pointer (some ⟨q, 0, none⟩) := value_u (hd ⟨28, .data⟩ (by simp) rfl) rfl rfl
                  generalize hA : mkAct _ _ g = A
                  have h82 : A.tmps[82]?.getD undef = .pointer (some ⟨q, 0, none⟩) := by rw [← hA, mkAct_in2 _ _ _ _ rfl rfl]; exact e82
                  refine step_val (v := .pointer (some ⟨q, 0, none⟩)) (w' := w') ?_ ⟨rfl, Ext.refl _ _⟩
                  simp [execOp, h82, Result.andThen, go_sem]
                case f30_6e =>
                  intro f v g w' hJ hfi hb hd
                  refine arm_u rfl ?_
                  have eg : g 77 = .bool false := value_u (hd ⟨23, .guard⟩ (by simp) rfl) rfl rfl
                  refine op_yes rfl rfl rfl rfl eg ?_
                  have e83 : g 83 = .pointer (some ⟨q, 0, none⟩) := value_u (hd ⟨29, .data⟩ (by simp) rfl) rfl rfl
                  generalize hA : mkAct _ _ g = A
                  have h83 : A.tmps[83]?.getD undef = .pointer (some ⟨q, 0, none⟩) := by rw [← hA, mkAct_in2 _ _ _ _ rfl rfl]; exact e83
                  refine step_val (v := .pointer (some ⟨q, 3, none⟩)) (w' := w') ?_ ⟨rfl, Ext.refl _ _⟩
                  simp [execOp, h83, Result.andThen, go_sem]
                case f31_6e =>
                  intro f v g w' hJ hfi hb hd
                  refine arm_u rfl ?_
                  have eg : g 77 = .bool false := value_u (hd ⟨23, .guard⟩ (by simp) rfl) rfl rfl
                  refine op_yes rfl rfl rfl rfl eg ?_
                  have e84 : g 84 = .pointer (some ⟨q, 3, none⟩) := value_u (hd ⟨30, .data⟩ (by simp) rfl) rfl rfl
                  generalize hA : mkAct _ _ g = A
                  have h84 : A.tmps[84]?.getD undef = .pointer (some ⟨q, 3, none⟩) := by rw [← hA, mkAct_in2 _ _ _ _ rfl rfl]; exact e84
                  refine step_val (v := .pointer (some ⟨q, 6, none⟩)) (w' := w') ?_ ⟨rfl, Ext.refl _ _⟩
                  simp [execOp, h84, Result.andThen, go_sem]
                case f32_6e =>
                  intro f v g w' hJ hfi hb hd
                  refine arm_u rfl ?_
                  have eg : g 77 = .bool false := value_u (hd ⟨23, .guard⟩ (by simp) rfl) rfl rfl
                  refine op_yes rfl rfl rfl rfl eg ?_
                  have e85 : g 85 = .pointer (some ⟨q, 6, none⟩) := value_u (hd ⟨31, .data⟩ (by simp) rfl) rfl rfl
                  generalize hA : mkAct _ _ g = A
                  have h85 : A.tmps[85]?.getD undef = .pointer (some ⟨q, 6, none⟩) := by rw [← hA, mkAct_in2 _ _ _ _ rfl rfl]; exact e85
                  have c := (cq6 w' hJ.1).2.2.2.2.2.2
                  refine step_val (v := .slice (some ⟨g0, off, none⟩) m cap) (w' := w') ?_ ⟨rfl, Ext.refl _ _⟩
                  simp [execOp, h85, c, Result.andThen, go_sem]
                case f33_6e =>
                  intro f v g w' hJ hfi hb hd
                  refine arm_u rfl ?_
                  have eg : g 77 = .bool false := value_u (hd ⟨23, .guard⟩ (by simp) rfl) rfl rfl
                  refine op_yes rfl rfl rfl rfl eg ?_
                  generalize hA : mkAct _ _ g = A
                  have h1 : A.tmps[1]?.getD undef = .int .i64 (kn : Int) := by rw [← hA]; exact mkAct_out2 _ _ _ _ _ rfl rfl
                  refine step_val (v := .int .i64 (kn : Int)) (w' := w') ?_ ⟨rfl, Ext.refl _ _⟩
                  simp [execOp, h1, Result.andThen, go_sem]
                case f34_6e =>
                  intro f v g w' hJ hfi hb hd
                  refine arm_u rfl ?_
                  have eg : g 77 = .bool false := value_u (hd ⟨23, .guard⟩ (by simp) rfl) rfl rfl
                  refine op_yes rfl rfl rfl rfl eg ?_
                  have e86 : g 86 = .slice (some ⟨g0, off, none⟩) m cap := value_u (hd ⟨32, .data⟩ (by simp) rfl) rfl rfl
                  have e87 : g 87 = .int .i64 (kn : Int) := value_u (hd ⟨33, .data⟩ (by simp) rfl) rfl rfl
                  generalize hA : mkAct _ _ g = A
                  have h86 : A.tmps[86]?.getD undef = .slice (some ⟨g0, off, none⟩) m cap := by rw [← hA, mkAct_in2 _ _ _ _ rfl rfl]; exact e86
                  have h87 : A.tmps[87]?.getD undef = .int .i64 (kn : Int) := by rw [← hA, mkAct_in2 _ _ _ _ rfl rfl]; exact e87
                  refine step_val (v := .pointer (some ⟨g0, off + kn, none⟩)) (w' := w') ?_ ⟨rfl, Ext.refl _ _⟩
                  simp [execOp, hkl, h86, h87, Result.andThen, go_sem]
                case f35_6e =>
                  intro f v g w' hJ hfi hb hd
                  refine arm_u rfl ?_
                  have eg : g 77 = .bool false := value_u (hd ⟨23, .guard⟩ (by simp) rfl) rfl rfl
                  refine op_yes rfl rfl rfl rfl eg ?_
                  have e88 : g 88 = .pointer (some ⟨g0, off + kn, none⟩) := value_u (hd ⟨34, .data⟩ (by simp) rfl) rfl rfl
                  generalize hA : mkAct _ _ g = A
                  have h88 : A.tmps[88]?.getD undef = .pointer (some ⟨g0, off + kn, none⟩) := by rw [← hA, mkAct_in2 _ _ _ _ rfl rfl]; exact e88
                  have c := cs6 w' hJ.1
                  refine step_val (v := .int .u32 (u32v sm)) (w' := w') ?_ ⟨rfl, Ext.refl _ _⟩
                  simp [execOp, h88, c, Result.andThen, go_sem]
                case f36_6e =>
                  intro f v g w' hJ hfi hb hd
                  refine arm_u rfl ?_
                  have eg : g 77 = .bool false := value_u (hd ⟨23, .guard⟩ (by simp) rfl) rfl rfl
                  refine op_yes rfl rfl rfl rfl eg ?_
                  have e81 : g 81 = .int .u32 (u32v (sumOf rd)) := value_u (hd ⟨27, .data⟩ (by simp) rfl) rfl rfl
                  have e89 : g 89 = .int .u32 (u32v sm) := value_u (hd ⟨35, .data⟩ (by simp) rfl) rfl rfl
                  generalize hA : mkAct _ _ g = A
                  have h81 : A.tmps[81]?.getD undef = .int .u32 (u32v (sumOf rd)) := by rw [← hA, mkAct_in2 _ _ _ _ rfl rfl]; exact e81
                  have h89 : A.tmps[89]?.getD undef = .int .u32 (u32v sm) := by rw [← hA, mkAct_in2 _ _ _ _ rfl rfl]; exact e89
                  refine step_val (v := .bool true) (w' := w') ?_ ⟨rfl, Ext.refl _ _⟩
                  simp [execOp, e5b, h81, h89, Result.andThen, go_sem]
                case f37_6e =>
                  intro f v g w' hJ hfi hb hd
                  refine arm_u rfl ?_
                  refine op_run rfl ?_
                  have e77 : g 77 = .bool false := value_u (hd ⟨23, .data⟩ (by simp) rfl) rfl rfl
                  have e90 : g 90 = .bool true := value_u (hd ⟨36, .data⟩ (by simp) rfl) rfl rfl
                  generalize hA : mkAct _ _ g = A
                  have h77 : A.tmps[77]?.getD undef = .bool false := by rw [← hA, mkAct_in2 _ _ _ _ rfl rfl]; exact e77
                  have h90 : A.tmps[90]?.getD undef = .bool true := by rw [← hA, mkAct_in2 _ _ _ _ rfl rfl]; exact e90
                  refine step_val (v := .bool true) (w' := w') ?_ ⟨rfl, Ext.refl _ _⟩
                  simp [execOp, h77, h90, Result.andThen, go_sem]
                case f38_6e =>
                  intro f v g w' hJ hfi hb hd
                  refine arm_u rfl ?_
                  refine op_run rfl ?_
                  have e91 : g 91 = .bool true := value_u (hd ⟨37, .data⟩ (by simp) rfl) rfl rfl
                  generalize hA : mkAct _ _ g = A
                  have h91 : A.tmps[91]?.getD undef = .bool true := by rw [← hA, mkAct_in2 _ _ _ _ rfl rfl]; exact e91
                  refine step_val (v := .bool true) (w' := w') ?_ ⟨rfl, Ext.refl _ _⟩
                  simp [execOp, h91, Result.andThen, go_sem]
              intro f v g wm hJ hk
              have e53 : g 53 = .bool true := value_u (hk 38 (by decide)) rfl rfl
              have hxe : Ext [] wn wm := by first | exact hJ | exact hJ.1
              clear hk hJ cq6 cs6 cm6 cq cs
              unfold mkAct; simp only [List.zipIdx_cons, List.zipIdx_nil, List.map_cons, List.map_nil, Nat.zero_add, Nat.reduceAdd, List.contains_cons, List.contains_nil, Nat.reduceBEq, Bool.or_false, Bool.or_true, ↓reduceIte, Bool.false_eq_true]
              rw [e53]
              go_wp2_with fail
              go_meet
              exact ⟨rfl, hxe⟩
          · obtain rfl : T = true := by rw [HT.out]; exact decide_eq_true (.inr (.inr (.inr (.inl e4))))
            refine wp_region_u [54, 55, 56, 57, 58, 59, 60, 61, 62, 63, 64, 65, 66, 67, 68, 69, 70, 71, 72, 73, 74, 75, 76, 77, 78, 79, 80, 81, 82, 83, 84, 85, 86, 87, 88, 89, 90, 91, 53] [] (fun n => match n with | 0 => .int .i64 1 | 1 => .bool false | 2 => .bool false | 3 => .pointer (some ⟨L, 0, none⟩) | 4 => .int .i64 5 | 5 => .bool false | 6 => .bool false | 7 => .bool false | 8 => .pointer (some ⟨L, 1, none⟩) | 9 => .int .i64 ri | 10 => .pointer (some ⟨q, 0, none⟩) | 11 => .pointer (some ⟨q, 0, none⟩) | 12 => .pointer (some ⟨q, 3, none⟩) | 13 => .pointer (some ⟨q, 3, none⟩) | 14 => .int .i64 ri | 15 => .bool false | 16 => .bool false | 17 => .bool false | 18 => .pointer (some ⟨L, 2, none⟩) | 19 => .int .i64 rt | 20 => .int .i64 (kn : Int) | 21 => .bool true | 22 => .bool true | 23 => .bool true | 24 => undef | 25 => undef | 26 => undef | 27 => undef | 28 => undef | 29 => undef | 30 => undef | 31 => undef | 32 => undef | 33 => undef | 34 => undef | 35 => undef | 36 => undef | 37 => .bool true | 38 => .bool true | _ => undef) (fun f v wx => Ext [] wn wx) (by kernel_rfl) (by kernel_rfl) ?hst0_6d ?h00_6d ?hst_6d ?hend_6d
            case hst0_6d =>
              exact fun f v w w' h hx => h.then0 hx
            case h00_6d =>
              exact Ext.refl _ _
            case hst_6d =>
              refine ⟨?f0_6d, ?f1_6d, ?f2_6d, ?f3_6d, ?f4_6d, ?f5_6d, ?f6_6d, ?f7_6d, ?f8_6d, ?f9_6d, ?f10_6d, ?f11_6d, ?f12_6d, ?f13_6d, ?f14_6d, ?f15_6d, ?f16_6d, ?f17_6d, ?f18_6d, ?f19_6d, ?f20_6d, ?f21_6d, ?f22_6d, ?f23_6d, ?f24_6d, ?f25_6d, ?f26_6d, ?f27_6d, ?f28_6d, ?f29_6d, ?f30_6d, ?f31_6d, ?f32_6d, ?f33_6d, ?f34_6d, ?f35_6d, ?f36_6d, ?f37_6d, ?f38_6d, trivial⟩
              case f0_6d =>
                intro f v g w' hJ hfi hb hd
                refine arm_u rfl ?_
                refine op_run rfl ?_
                generalize hA : mkAct _ _ g = A
                have h7 : A.tmps[7]?.getD undef = .int .i64 1 := by rw [← hA]; exact mkAct_out2 _ _ _ _ _ rfl rfl
                refine step_val (v := .int .i64 1) (w' := w') ?_ ⟨rfl, Ext.refl _ _⟩
                simp [execOp, h7, Result.andThen, go_sem]
              case f1_6d =>
                intro f v g w' hJ hfi hb hd
                refine arm_u rfl ?_
                refine op_run rfl ?_
                have e54 : g 54 = .int .i64 1 := value_u (hd ⟨0, .data⟩ (by simp) rfl) rfl rfl
                generalize hA : mkAct _ _ g = A
                have h54 : A.tmps[54]?.getD undef = .int .i64 1 := by rw [← hA, mkAct_in2 _ _ _ _ rfl rfl]; exact e54
                refine step_val (v := .bool false) (w' := w') ?_ ⟨rfl, Ext.refl _ _⟩
                simp [execOp, h54, Result.andThen, go_sem]
              case f2_6d =>
                intro f v g w' hJ hfi hb hd
                refine arm_u rfl ?_
                refine op_run rfl ?_
                have e55 : g 55 = .bool false := value_u (hd ⟨1, .data⟩ (by simp) rfl) rfl rfl
                generalize hA : mkAct _ _ g = A
                have h55 : A.tmps[55]?.getD undef = .bool false := by rw [← hA, mkAct_in2 _ _ _ _ rfl rfl]; exact e55
                refine step_val (v := .bool false) (w' := w') ?_ ⟨rfl, Ext.refl _ _⟩
                simp [execOp, h55, Result.andThen, go_sem]
              case f3_6d =>
                intro f v g w' hJ hfi hb hd
                refine arm_u rfl ?_
                have eg : g 56 = .bool false := value_u (hd ⟨2, .guard⟩ (by simp) rfl) rfl rfl
                refine op_yes rfl rfl rfl rfl eg ?_
                generalize hA : mkAct _ _ g = A
                have h6 : A.tmps[6]?.getD undef = .pointer (some ⟨L, 0, none⟩) := by rw [← hA]; exact mkAct_out2 _ _ _ _ _ rfl rfl
                refine step_val (v := .pointer (some ⟨L, 0, none⟩)) (w' := w') ?_ ⟨rfl, Ext.refl _ _⟩
                simp [execOp, h6, Result.andThen, go_sem]
              case f4_6d =>
                intro f v g w' hJ hfi hb hd
                refine arm_u rfl ?_
                have eg : g 56 = .bool false := value_u (hd ⟨2, .guard⟩ (by simp) rfl) rfl rfl
                refine op_yes rfl rfl rfl rfl eg ?_
                have e57 : g 57 = .pointer (some ⟨L, 0, none⟩) := value_u (hd ⟨3, .data⟩ (by simp) rfl) rfl rfl
                generalize hA : mkAct _ _ g = A
                have h57 : A.tmps[57]?.getD undef = .pointer (some ⟨L, 0, none⟩) := by rw [← hA, mkAct_in2 _ _ _ _ rfl rfl]; exact e57
                have c := (cm6 w' hJ).1
                refine step_val (v := .int .i64 5) (w' := w') ?_ ⟨rfl, Ext.refl _ _⟩
                simp [execOp, h57, c, Result.andThen, go_sem]
              case f5_6d =>
                intro f v g w' hJ hfi hb hd
                refine arm_u rfl ?_
                have eg : g 56 = .bool false := value_u (hd ⟨2, .guard⟩ (by simp) rfl) rfl rfl
                refine op_yes rfl rfl rfl rfl eg ?_
                have e58 : g 58 = .int .i64 5 := value_u (hd ⟨4, .data⟩ (by simp) rfl) rfl rfl
                generalize hA : mkAct _ _ g = A
                have h58 : A.tmps[58]?.getD undef = .int .i64 5 := by rw [← hA, mkAct_in2 _ _ _ _ rfl rfl]; exact e58
                refine step_val (v := .bool false) (w' := w') ?_ ⟨rfl, Ext.refl _ _⟩
                simp [execOp, h58, Result.andThen, go_sem]
              case f6_6d =>
                intro f v g w' hJ hfi hb hd
                refine arm_u rfl ?_
                refine op_run rfl ?_
                have e56 : g 56 = .bool false := value_u (hd ⟨2, .data⟩ (by simp) rfl) rfl rfl
                have e59 : g 59 = .bool false := value_u (hd ⟨5, .data⟩ (by simp) rfl) rfl rfl
                generalize hA : mkAct _ _ g = A
                have h56 : A.tmps[56]?.getD undef = .bool false := by rw [← hA, mkAct_in2 _ _ _ _ rfl rfl]; exact e56
                have h59 : A.tmps[59]?.getD undef = .bool false := by rw [← hA, mkAct_in2 _ _ _ _ rfl rfl]; exact e59
                refine step_val (v := .bool false) (w' := w') ?_ ⟨rfl, Ext.refl _ _⟩
                simp [execOp, h56, h59, Result.andThen, go_sem]
              case f7_6d =>
                intro f v g w' hJ hfi hb hd
                refine arm_u rfl ?_
                refine op_run rfl ?_
                have e60 : g 60 = .bool false := value_u (hd ⟨6, .data⟩ (by simp) rfl) rfl rfl
                generalize hA : mkAct _ _ g = A
                have h60 : A.tmps[60]?.getD undef = .bool false := by rw [← hA, mkAct_in2 _ _ _ _ rfl rfl]; exact e60
                refine step_val (v := .bool false) (w' := w') ?_ ⟨rfl, Ext.refl _ _⟩
                simp [execOp, h60, Result.andThen, go_sem]
              case f8_6d =>
                intro f v g w' hJ hfi hb hd
                refine arm_u rfl ?_
                have eg : g 61 = .bool false := value_u (hd ⟨7, .guard⟩ (by simp) rfl) rfl rfl
                refine op_yes rfl rfl rfl rfl eg ?_
                generalize hA : mkAct _ _ g = A
                have h6 : A.tmps[6]?.getD undef = .pointer (some ⟨L, 0, none⟩) := by rw [← hA]; exact mkAct_out2 _ _ _ _ _ rfl rfl
                refine step_val (v := .pointer (some ⟨L, 1, none⟩)) (w' := w') ?_ ⟨rfl, Ext.refl _ _⟩
                simp [execOp, h6, Result.andThen, go_sem]
              case f9_6d =>
                intro f v g w' hJ hfi hb hd
                refine arm_u rfl ?_
                have eg : g 61 = .bool false := value_u (hd ⟨7, .guard⟩ (by simp) rfl) rfl rfl
                refine op_yes rfl rfl rfl rfl eg ?_
                have e62 : g 62 = .pointer (some ⟨L, 1, none⟩) := value_u (hd ⟨8, .data⟩ (by simp) rfl) rfl rfl
                generalize hA : mkAct _ _ g = A
                have h62 : A.tmps[62]?.getD undef = .pointer (some ⟨L, 1, none⟩) := by rw [← hA, mkAct_in2 _ _ _ _ rfl rfl]; exact e62
                have c := (cm6 w' hJ).2.1
                refine step_val (v := .int .i64 ri) (w' := w') ?_ ⟨rfl, Ext.refl _ _⟩
                simp [execOp, h62, c, Result.andThen, go_sem]
              case f10_6d =>
                intro f v g w' hJ hfi hb hd
                refine arm_u rfl ?_
                have eg : g 61 = .bool false := value_u (hd ⟨7, .guard⟩ (by simp) rfl) rfl rfl
                refine op_yes rfl rfl rfl rfl eg ?_
                generalize hA : mkAct _ _ g = A
                have h0 : A.tmps[0]?.getD undef = .pointer (some ⟨q, 0, none⟩) := by rw [← hA]; exact mkAct_out2 _ _ _ _ _ rfl rfl
                refine step_val (v := .pointer (some ⟨q, 0, none⟩)) (w' := w') ?_ ⟨rfl, Ext.refl _ _⟩
                simp [execOp, h0, Result.andThen, go_sem]
              case f11_6d =>
                intro f v g w' hJ hfi hb hd
                refine arm_u rfl ?_
                have eg : g 61 = .bool false := value_u (hd ⟨7, .guard⟩ (by simp) rfl) rfl rfl
                refine op_yes rfl rfl rfl rfl eg ?_
                have e64 : g 64 = .pointer (some ⟨q, 0, none⟩) := value_u (hd ⟨10, .data⟩ (by simp) rfl) rfl rfl
                generalize hA : mkAct _ _ g = A
                have h64 : A.tmps[64]?.getD undef = .pointer (some ⟨q, 0, none⟩) := by rw [← hA, mkAct_in2 _ _ _ _ rfl rfl]; exact e64
                refine step_val (v := .pointer (some ⟨q, 0, none⟩)) (w' := w') ?_ ⟨rfl, Ext.refl _ _⟩
                simp [execOp, h64, Result.andThen, go_sem]
              case f12_6d =>
                intro f v g w' hJ hfi hb hd
                refine arm_u rfl ?_
                have eg : g 61 = .bool false := value_u (hd ⟨7, .guard⟩ (by simp) rfl) rfl rfl
                refine op_yes rfl rfl rfl rfl eg ?_
                have e65 : g 65 = .pointer (some ⟨q, 0, none⟩) := value_u (hd ⟨11, .data⟩ (by simp) rfl) rfl rfl
                generalize hA : mkAct _ _ g = A
                have h65 : A.tmps[65]?.getD undef = .pointer (some ⟨q, 0, none⟩) := by rw [← hA, mkAct_in2 _ _ _ _ rfl rfl]; exact e65
                refine step_val (v := .pointer (some ⟨q, 3, none⟩)) (w' := w') ?_ ⟨rfl, Ext.refl _ _⟩
                simp [execOp, h65, Result.andThen, go_sem]
              case f13_6d =>
                intro f v g w' hJ hfi hb hd
                refine arm_u rfl ?_
                have eg : g 61 = .bool false := value_u (hd ⟨7, .guard⟩ (by simp) rfl) rfl rfl
                refine op_yes rfl rfl rfl rfl eg ?_
                have e66 : g 66 = .pointer (some ⟨q, 3, none⟩) := value_u (hd ⟨12, .data⟩ (by simp) rfl) rfl rfl
                generalize hA : mkAct _ _ g = A
                have h66 : A.tmps[66]?.getD undef = .pointer (some ⟨q, 3, none⟩) := by rw [← hA, mkAct_in2 _ _ _ _ rfl rfl]; exact e66
                refine step_val (v := .pointer (some ⟨q, 3, none⟩)) (w' := w') ?_ ⟨rfl, Ext.refl _ _⟩
                simp [execOp, h66, Result.andThen, go_sem]
              case f14_6d =>
                intro f v g w' hJ hfi hb hd
                refine arm_u rfl ?_
                have eg : g 61 = .bool false := value_u (hd ⟨7, .guard⟩ (by simp) rfl) rfl rfl
                refine op_yes rfl rfl rfl rfl eg ?_
                have e67 : g 67 = .pointer (some ⟨q, 3, none⟩) := value_u (hd ⟨13, .data⟩ (by simp) rfl) rfl rfl
                generalize hA : mkAct _ _ g = A
                have h67 : A.tmps[67]?.getD undef = .pointer (some ⟨q, 3, none⟩) := by rw [← hA, mkAct_in2 _ _ _ _ rfl rfl]; exact e67
                have c := (cq6 w' hJ).2.2.2.1
                refine step_val (v := .int .i64 ri) (w' := w') ?_ ⟨rfl, Ext.refl _ _⟩
                simp [execOp, h67, c, Result.andThen, go_sem]
              case f15_6d =>
                intro f v g w' hJ hfi hb hd
                refine arm_u rfl ?_
                have eg : g 61 = .bool false := value_u (hd ⟨7, .guard⟩ (by simp) rfl) rfl rfl
                refine op_yes rfl rfl rfl rfl eg ?_
                have e63 : g 63 = .int .i64 ri := value_u (hd ⟨9, .data⟩ (by simp) rfl) rfl rfl
                have e68 : g 68 = .int .i64 ri := value_u (hd ⟨14, .data⟩ (by simp) rfl) rfl rfl
                generalize hA : mkAct _ _ g = A
                have h63 : A.tmps[63]?.getD undef = .int .i64 ri := by rw [← hA, mkAct_in2 _ _ _ _ rfl rfl]; exact e63
                have h68 : A.tmps[68]?.getD undef = .int .i64 ri := by rw [← hA, mkAct_in2 _ _ _ _ rfl rfl]; exact e68
                refine step_val (v := .bool false) (w' := w') ?_ ⟨rfl, Ext.refl _ _⟩
                simp [execOp, h63, h68, Result.andThen, go_sem]
              case f16_6d =>
                intro f v g w' hJ hfi hb hd
                refine arm_u rfl ?_
                refine op_run rfl ?_
                have e61 : g 61 = .bool false := value_u (hd ⟨7, .data⟩ (by simp) rfl) rfl rfl
                have e69 : g 69 = .bool false := value_u (hd ⟨15, .data⟩ (by simp) rfl) rfl rfl
                generalize hA : mkAct _ _ g = A
                have h61 : A.tmps[61]?.getD undef = .bool false := by rw [← hA, mkAct_in2 _ _ _ _ rfl rfl]; exact e61
                have h69 : A.tmps[69]?.getD undef = .bool false := by rw [← hA, mkAct_in2 _ _ _ _ rfl rfl]; exact e69
                refine step_val (v := .bool false) (w' := w') ?_ ⟨rfl, Ext.refl _ _⟩
                simp [execOp, h61, h69, Result.andThen, go_sem]
              case f17_6d =>
                intro f v g w' hJ hfi hb hd
                refine arm_u rfl ?_
                refine op_run rfl ?_
                have e70 : g 70 = .bool false := value_u (hd ⟨16, .data⟩ (by simp) rfl) rfl rfl
                generalize hA : mkAct _ _ g = A
                have h70 : A.tmps[70]?.getD undef = .bool false := by rw [← hA, mkAct_in2 _ _ _ _ rfl rfl]; exact e70
                refine step_val (v := .bool false) (w' := w') ?_ ⟨rfl, Ext.refl _ _⟩
                simp [execOp, h70, Result.andThen, go_sem]
              case f18_6d =>
                intro f v g w' hJ hfi hb hd
                refine arm_u rfl ?_
                have eg : g 71 = .bool false := value_u (hd ⟨17, .guard⟩ (by simp) rfl) rfl rfl
                refine op_yes rfl rfl rfl rfl eg ?_
                generalize hA : mkAct _ _ g = A
                have h6 : A.tmps[6]?.getD undef = .pointer (some ⟨L, 0, none⟩) := by rw [← hA]; exact mkAct_out2 _ _ _ _ _ rfl rfl
                refine step_val (v := .pointer (some ⟨L, 2, none⟩)) (w' := w') ?_ ⟨rfl, Ext.refl _ _⟩
                simp [execOp, h6, Result.andThen, go_sem]
              case f19_6d =>
                intro f v g w' hJ hfi hb hd
                refine arm_u rfl ?_
                have eg : g 71 = .bool false := value_u (hd ⟨17, .guard⟩ (by simp) rfl) rfl rfl
                refine op_yes rfl rfl rfl rfl eg ?_
                have e72 : g 72 = .pointer (some ⟨L, 2, none⟩) := value_u (hd ⟨18, .data⟩ (by simp) rfl) rfl rfl
                generalize hA : mkAct _ _ g = A
                have h72 : A.tmps[72]?.getD undef = .pointer (some ⟨L, 2, none⟩) := by rw [← hA, mkAct_in2 _ _ _ _ rfl rfl]; exact e72
                have c := (cm6 w' hJ).2.2.1
                refine step_val (v := .int .i64 rt) (w' := w') ?_ ⟨rfl, Ext.refl _ _⟩
                simp [execOp, h72, c, Result.andThen, go_sem]
              case f20_6d =>
                intro f v g w' hJ hfi hb hd
                refine arm_u rfl ?_
                have eg : g 71 = .bool false := value_u (hd ⟨17, .guard⟩ (by simp) rfl) rfl rfl
                refine op_yes rfl rfl rfl rfl eg ?_
                generalize hA : mkAct _ _ g = A
                have h1 : A.tmps[1]?.getD undef = .int .i64 (kn : Int) := by rw [← hA]; exact mkAct_out2 _ _ _ _ _ rfl rfl
                refine step_val (v := .int .i64 (kn : Int)) (w' := w') ?_ ⟨rfl, Ext.refl _ _⟩
                simp [execOp, h1, Result.andThen, go_sem]
              case f21_6d =>
                intro f v g w' hJ hfi hb hd
                refine arm_u rfl ?_
                have eg : g 71 = .bool false := value_u (hd ⟨17, .guard⟩ (by simp) rfl) rfl rfl
                refine op_yes rfl rfl rfl rfl eg ?_
                have e73 : g 73 = .int .i64 rt := value_u (hd ⟨19, .data⟩ (by simp) rfl) rfl rfl
                have e74 : g 74 = .int .i64 (kn : Int) := value_u (hd ⟨20, .data⟩ (by simp) rfl) rfl rfl
                generalize hA : mkAct _ _ g = A
                have h73 : A.tmps[73]?.getD undef = .int .i64 rt := by rw [← hA, mkAct_in2 _ _ _ _ rfl rfl]; exact e73
                have h74 : A.tmps[74]?.getD undef = .int .i64 (kn : Int) := by rw [← hA, mkAct_in2 _ _ _ _ rfl rfl]; exact e74
                refine step_val (v := .bool true) (w' := w') ?_ ⟨rfl, Ext.refl _ _⟩
                simp [execOp, e4, h73, h74, Result.andThen, go_sem]
              case f22_6d =>
                intro f v g w' hJ hfi hb hd
                refine arm_u rfl ?_
                refine op_run rfl ?_
                have e71 : g 71 = .bool false := value_u (hd ⟨17, .data⟩ (by simp) rfl) rfl rfl
                have e75 : g 75 = .bool true := value_u (hd ⟨21, .data⟩ (by simp) rfl) rfl rfl
                generalize hA : mkAct _ _ g = A
                have h71 : A.tmps[71]?.getD undef = .bool false := by rw [← hA, mkAct_in2 _ _ _ _ rfl rfl]; exact e71
                have h75 : A.tmps[75]?.getD undef = .bool true := by rw [← hA, mkAct_in2 _ _ _ _ rfl rfl]; exact e75
                refine step_val (v := .bool true) (w' := w') ?_ ⟨rfl, Ext.refl _ _⟩
                simp [execOp, h71, h75, Result.andThen, go_sem]
              case f23_6d =>
                intro f v g w' hJ hfi hb hd
                refine arm_u rfl ?_
                refine op_run rfl ?_
                have e76 : g 76 = .bool true := value_u (hd ⟨22, .data⟩ (by simp) rfl) rfl rfl
                generalize hA : mkAct _ _ g = A
                have h76 : A.tmps[76]?.getD undef = .bool true := by rw [← hA, mkAct_in2 _ _ _ _ rfl rfl]; exact e76
                refine step_val (v := .bool true) (w' := w') ?_ ⟨rfl, Ext.refl _ _⟩
                simp [execOp, h76, Result.andThen, go_sem]
              case f24_6d =>
                intro f v g w' hJ hfi hb hd
                refine arm_u rfl ?_
                have eg : g 77 = .bool true := value_u (hd ⟨23, .guard⟩ (by simp) rfl) rfl rfl
                exact op_no rfl rfl rfl rfl true eg (by decide) ⟨rfl, Ext.refl _ _⟩
              case f25_6d =>
                intro f v g w' hJ hfi hb hd
                refine arm_u rfl ?_
                have eg : g 77 = .bool true := value_u (hd ⟨23, .guard⟩ (by simp) rfl) rfl rfl
                exact op_no rfl rfl rfl rfl true eg (by decide) ⟨rfl, Ext.refl _ _⟩
              case f26_6d =>
                intro f v g w' hJ hfi hb hd
                refine arm_u rfl ?_
                have eg : g 77 = .bool true := value_u (hd ⟨23, .guard⟩ (by simp) rfl) rfl rfl
                exact op_no rfl rfl rfl rfl true eg (by decide) ⟨rfl, Ext.refl _ _⟩
              case f27_6d =>
                intro f v g w' hJ hfi hb hd
                refine arm_u rfl ?_
                have eg : g 77 = .bool true := value_u (hd ⟨23, .guard⟩ (by simp) rfl) rfl rfl
                exact op_no rfl rfl rfl rfl true eg (by decide) ⟨rfl, Ext.refl _ _⟩
              case f28_6d =>
                intro f v g w' hJ hfi hb hd
                refine arm_u rfl ?_
                have eg : g 77 = .bool true := value_u (hd ⟨23, .guard⟩ (by simp) rfl) rfl rfl
                exact op_no rfl rfl rfl rfl true eg (by decide) ⟨rfl, Ext.refl _ _⟩
              case f29_6d =>
                intro f v g w' hJ hfi hb hd
                refine arm_u rfl ?_
                have eg : g 77 = .bool true := value_u (hd ⟨23, .guard⟩ (by simp) rfl) rfl rfl
                exact op_no rfl rfl rfl rfl true eg (by decide) ⟨rfl, Ext.refl _ _⟩
              case f30_6d =>
                intro f v g w' hJ hfi hb hd
                refine arm_u rfl ?_
                have eg : g 77 = .bool true := value_u (hd ⟨23, .guard⟩ (by simp) rfl) rfl rfl
                exact op_no rfl rfl rfl rfl true eg (by decide) ⟨rfl, Ext.refl _ _⟩
              case f31_6d =>
                intro f v g w' hJ hfi hb hd
                refine arm_u rfl ?_
                have eg : g 77 = .bool true := value_u (hd ⟨23, .guard⟩ (by simp) rfl) rfl rfl
                exact op_no rfl rfl rfl rfl true eg (by decide) ⟨rfl, Ext.refl _ _⟩
              case f32_6d =>
                intro f v g w' hJ hfi hb hd
                refine arm_u rfl ?_
                have eg : g 77 = .bool true := value_u (hd ⟨23, .guard⟩ (by simp) rfl) rfl rfl
                exact op_no rfl rfl rfl rfl true eg (by decide) ⟨rfl, Ext.refl _ _⟩
              case f33_6d =>
                intro f v g w' hJ hfi hb hd
                refine arm_u rfl ?_
                have eg : g 77 = .bool true := value_u (hd ⟨23, .guard⟩ (by simp) rfl) rfl rfl
                exact op_no rfl rfl rfl rfl true eg (by decide) ⟨rfl, Ext.refl _ _⟩
              case f34_6d =>
                intro f v g w' hJ hfi hb hd
                refine arm_u rfl ?_
                have eg : g 77 = .bool true := value_u (hd ⟨23, .guard⟩ (by simp) rfl) rfl rfl
                exact op_no rfl rfl rfl rfl true eg (by decide) ⟨rfl, Ext.refl _ _⟩
              case f35_6d =>
                intro f v g w' hJ hfi hb hd
                refine arm_u rfl ?_
                have eg : g 77 = .bool true := value_u (hd ⟨23, .guard⟩ (by simp) rfl) rfl rfl
                exact op_no rfl rfl rfl rfl true eg (by decide) ⟨rfl, Ext.refl _ _⟩
              case f36_6d =>
                intro f v g w' hJ hfi hb hd
                refine arm_u rfl ?_
                have eg : g 77 = .bool true := value_u (hd ⟨23, .guard⟩ (by simp) rfl) rfl rfl
                exact op_no rfl rfl rfl rfl true eg (by decide) ⟨rfl, Ext.refl _ _⟩
              case f37_6d =>
                intro f v g w' hJ hfi hb hd
                refine arm_u rfl ?_
                refine op_run rfl ?_
                have e77 : g 77 = .bool true := value_u (hd ⟨23, .data⟩ (by simp) rfl) rfl rfl
                have e90 : g 90 = undef := value_u (hd ⟨36, .data⟩ (by simp) rfl) rfl rfl
                generalize hA : mkAct _ _ g = A
                have h77 : A.tmps[77]?.getD undef = .bool true := by rw [← hA, mkAct_in2 _ _ _ _ rfl rfl]; exact e77
                have h90 : A.tmps[90]?.getD undef = undef := by rw [← hA, mkAct_in2 _ _ _ _ rfl rfl]; exact e90
                refine step_val (v := .bool true) (w' := w') ?_ ⟨rfl, Ext.refl _ _⟩
                simp [execOp, h77, h90, Result.andThen, go_sem]
              case f38_6d =>
                intro f v g w' hJ hfi hb hd
                refine arm_u rfl ?_
                refine op_run rfl ?_
                have e91 : g 91 = .bool true := value_u (hd ⟨37, .data⟩ (by simp) rfl) rfl rfl
                generalize hA : mkAct _ _ g = A
                have h91 : A.tmps[91]?.getD undef = .bool true := by rw [← hA, mkAct_in2 _ _ _ _ rfl rfl]; exact e91
                refine step_val (v := .bool true) (w' := w') ?_ ⟨rfl, Ext.refl _ _⟩
                simp [execOp, h91, Result.andThen, go_sem]
            intro f v g wm hJ hk
            have e53 : g 53 = .bool true := value_u (hk 38 (by decide)) rfl rfl
            have hxe : Ext [] wn wm := by first | exact hJ | exact hJ.1
            clear hk hJ cq6 cs6 cm6 cq cs
            unfold mkAct; simp only [List.zipIdx_cons, List.zipIdx_nil, List.map_cons, List.map_nil, Nat.zero_add, Nat.reduceAdd, List.contains_cons, List.contains_nil, Nat.reduceBEq, Bool.or_false, Bool.or_true, ↓reduceIte, Bool.false_eq_true]
            rw [e53]
            go_wp2_with fail
            go_meet
            exact ⟨rfl, hxe⟩
        · obtain rfl : T = true := by rw [HT.out]; exact decide_eq_true (.inr (.inr (.inl e3)))
          refine wp_region_u [54, 55, 56, 57, 58, 59, 60, 61, 62, 63, 64, 65, 66, 67, 68, 69, 70, 71, 72, 73, 74, 75, 76, 77, 78, 79, 80, 81, 82, 83, 84, 85, 86, 87, 88, 89, 90, 91, 53] [] (fun n => match n with | 0 => .int .i64 1 | 1 => .bool false | 2 => .bool false | 3 => .pointer (some ⟨L, 0, none⟩) | 4 => .int .i64 5 | 5 => .bool false | 6 => .bool false | 7 => .bool false | 8 => .pointer (some ⟨L, 1, none⟩) | 9 => .int .i64 ri | 10 => .pointer (some ⟨q, 0, none⟩) | 11 => .pointer (some ⟨q, 0, none⟩) | 12 => .pointer (some ⟨q, 3, none⟩) | 13 => .pointer (some ⟨q, 3, none⟩) | 14 => .int .i64 li | 15 => .bool true | 16 => .bool true | 17 => .bool true | 18 => undef | 19 => undef | 20 => undef | 21 => undef | 22 => .bool true | 23 => .bool true | 24 => undef | 25 => undef | 26 => undef | 27 => undef | 28 => undef | 29 => undef | 30 => undef | 31 => undef | 32 => undef | 33 => undef | 34 => undef | 35 => undef | 36 => undef | 37 => .bool true | 38 => .bool true | _ => undef) (fun f v wx => Ext [] wn wx) (by kernel_rfl) (by kernel_rfl) ?hst0_6c ?h00_6c ?hst_6c ?hend_6c
          case hst0_6c =>
            exact fun f v w w' h hx => h.then0 hx
          case h00_6c =>
            exact Ext.refl _ _
          case hst_6c =>
            refine ⟨?f0_6c, ?f1_6c, ?f2_6c, ?f3_6c, ?f4_6c, ?f5_6c, ?f6_6c, ?f7_6c, ?f8_6c, ?f9_6c, ?f10_6c, ?f11_6c, ?f12_6c, ?f13_6c, ?f14_6c, ?f15_6c, ?f16_6c, ?f17_6c, ?f18_6c, ?f19_6c, ?f20_6c, ?f21_6c, ?f22_6c, ?f23_6c, ?f24_6c, ?f25_6c, ?f26_6c, ?f27_6c, ?f28_6c, ?f29_6c, ?f30_6c, ?f31_6c, ?f32_6c, ?f33_6c, ?f34_6c, ?f35_6c, ?f36_6c, ?f37_6c, ?f38_6c, trivial⟩
            case f0_6c =>
              intro f v g w' hJ hfi hb hd
              refine arm_u rfl ?_
              refine op_run rfl ?_
              generalize hA : mkAct _ _ g = A
              have h7 : A.tmps[7]?.getD undef = .int .i64 1 := by rw [← hA]; exact mkAct_out2 _ _ _ _ _ rfl rfl
              refine step_val (v := .int .i64 1) (w' := w') ?_ ⟨rfl, Ext.refl _ _⟩
              simp [execOp, h7, Result.andThen, go_sem]
            case f1_6c =>
              intro f v g w' hJ hfi hb hd
              refine arm_u rfl ?_
              refine op_run rfl ?_
              have e54 : g 54 = .int .i64 1 := value_u (hd ⟨0, .data⟩ (by simp) rfl) rfl rfl
              generalize hA : mkAct _ _ g = A
              have h54 : A.tmps[54]?.getD undef = .int .i64 1 := by rw [← hA, mkAct_in2 _ _ _ _ rfl rfl]; exact e54
              refine step_val (v := .bool false) (w' := w') ?_ ⟨rfl, Ext.refl _ _⟩
              simp [execOp, h54, Result.andThen, go_sem]
            case f2_6c =>
              intro f v g w' hJ hfi hb hd
              refine arm_u rfl ?_
              refine op_run rfl ?_
              have e55 : g 55 = .bool false := value_u (hd ⟨1, .data⟩ (by simp) rfl) rfl rfl
              generalize hA : mkAct _ _ g = A
              have h55 : A.tmps[55]?.getD undef = .bool false := by rw [← hA, mkAct_in2 _ _ _ _ rfl rfl]; exact e55
              refine step_val (v := .bool false) (w' := w') ?_ ⟨rfl, Ext.refl _ _⟩
              simp [execOp, h55, Result.andThen, go_sem]
            case f3_6c =>
              intro f v g w' hJ hfi hb hd
              refine arm_u rfl ?_
              have eg : g 56 = .bool false := value_u (hd ⟨2, .guard⟩ (by simp) rfl) rfl rfl
              refine op_yes rfl rfl rfl rfl eg ?_
              generalize hA : mkAct _ _ g = A
              have h6 : A.tmps[6]?.getD undef = .pointer (some ⟨L, 0, none⟩) := by rw [← hA]; exact mkAct_out2 _ _ _ _ _ rfl rfl
              refine step_val (v := .pointer (some ⟨L, 0, none⟩)) (w' := w') ?_ ⟨rfl, Ext.refl _ _⟩
              simp [execOp, h6, Result.andThen, go_sem]
            case f4_6c =>
              intro f v g w' hJ hfi hb hd
              refine arm_u rfl ?_
              have eg : g 56 = .bool false := value_u (hd ⟨2, .guard⟩ (by simp) rfl) rfl rfl
              refine op_yes rfl rfl rfl rfl eg ?_
              have e57 : g 57 = .pointer (some ⟨L, 0, none⟩) := value_u (hd ⟨3, .data⟩ (by simp) rfl) rfl rfl
              generalize hA : mkAct _ _ g = A
              have h57 : A.tmps[57]?.getD undef = .pointer (some ⟨L, 0, none⟩) := by rw [← hA, mkAct_in2 _ _ _ _ rfl rfl]; exact e57
              have c := (cm6 w' hJ).1
              refine step_val (v := .int .i64 5) (w' := w') ?_ ⟨rfl, Ext.refl _ _⟩
              simp [execOp, h57, c, Result.andThen, go_sem]
            case f5_6c =>
              intro f v g w' hJ hfi hb hd
              refine arm_u rfl ?_
              have eg : g 56 = .bool false := value_u (hd ⟨2, .guard⟩ (by simp) rfl) rfl rfl
              refine op_yes rfl rfl rfl rfl eg ?_
              have e58 : g 58 = .int .i64 5 := value_u (hd ⟨4, .data⟩ (by simp) rfl) rfl rfl
              generalize hA : mkAct _ _ g = A
              have h58 : A.tmps[58]?.getD undef = .int .i64 5 := by rw [← hA, mkAct_in2 _ _ _ _ rfl rfl]; exact e58
              refine step_val (v := .bool false) (w' := w') ?_ ⟨rfl, Ext.refl _ _⟩
              simp [execOp, h58, Result.andThen, go_sem]
            case f6_6c =>
              intro f v g w' hJ hfi hb hd
              refine arm_u rfl ?_
              refine op_run rfl ?_
              have e56 : g 56 = .bool false := value_u (hd ⟨2, .data⟩ (by simp) rfl) rfl rfl
              have e59 : g 59 = .bool false := value_u (hd ⟨5, .data⟩ (by simp) rfl) rfl rfl
              generalize hA : mkAct _ _ g = A
              have h56 : A.tmps[56]?.getD undef = .bool false := by rw [← hA, mkAct_in2 _ _ _ _ rfl rfl]; exact e56
              have h59 : A.tmps[59]?.getD undef = .bool false := by rw [← hA, mkAct_in2 _ _ _ _ rfl rfl]; exact e59
              refine step_val (v := .bool false) (w' := w') ?_ ⟨rfl, Ext.refl _ _⟩
              simp [execOp, h56, h59, Result.andThen, go_sem]
            case f7_6c =>
              intro f v g w' hJ hfi hb hd
              refine arm_u rfl ?_
              refine op_run rfl ?_
              have e60 : g 60 = .bool false := value_u (hd ⟨6, .data⟩ (by simp) rfl) rfl rfl
              generalize hA : mkAct _ _ g = A
              have h60 : A.tmps[60]?.getD undef = .bool false := by rw [← hA, mkAct_in2 _ _ _ _ rfl rfl]; exact e60
              refine step_val (v := .bool false) (w' := w') ?_ ⟨rfl, Ext.refl _ _⟩
              simp [execOp, h60, Result.andThen, go_sem]
            case f8_6c =>
              intro f v g w' hJ hfi hb hd
              refine arm_u rfl ?_
              have eg : g 61 = .bool false := value_u (hd ⟨7, .guard⟩ (by simp) rfl) rfl rfl
              refine op_yes rfl rfl rfl rfl eg ?_
              generalize hA : mkAct _ _ g = A
              have h6 : A.tmps[6]?.getD undef = .pointer (some ⟨L, 0, none⟩) := by rw [← hA]; exact mkAct_out2 _ _ _ _ _ rfl rfl
              refine step_val (v := .pointer (some ⟨L, 1, none⟩)) (w' := w') ?_ ⟨rfl, Ext.refl _ _⟩
              simp [execOp, h6, Result.andThen, go_sem]
            case f9_6c =>
              intro f v g w' hJ hfi hb hd
              refine arm_u rfl ?_
              have eg : g 61 = .bool false := value_u (hd ⟨7, .guard⟩ (by simp) rfl) rfl rfl
              refine op_yes rfl rfl rfl rfl eg ?_
              have e62 : g 62 = .pointer (some ⟨L, 1, none⟩) := value_u (hd ⟨8, .data⟩ (by simp) rfl) rfl rfl
              generalize hA : mkAct _ _ g = A
              have h62 : A.tmps[62]?.getD undef = .pointer (some ⟨L, 1, none⟩) := by rw [← hA, mkAct_in2 _ _ _ _ rfl rfl]; exact e62
              have c := (cm6 w' hJ).2.1
              refine step_val (v := .int .i64 ri) (w' := w') ?_ ⟨rfl, Ext.refl _ _⟩
              simp [execOp, h62, c, Result.andThen, go_sem]
            case f10_6c =>
              intro f v g w' hJ hfi hb hd
              refine arm_u rfl ?_
              have eg : g 61 = .bool false := value_u (hd ⟨7, .guard⟩ (by simp) rfl) rfl rfl
              refine op_yes rfl rfl rfl rfl eg ?_
              generalize hA : mkAct _ _ g = A
              have h0 : A.tmps[0]?.getD undef = .pointer (some ⟨q, 0, none⟩) := by rw [← hA]; exact mkAct_out2 _ _ _ _ _ rfl rfl
              refine step_val (v := .pointer (some ⟨q, 0, none⟩)) (w' := w') ?_ ⟨rfl, Ext.refl _ _⟩
              simp [execOp, h0, Result.andThen, go_sem]
            case f11_6c =>
              intro f v g w' hJ hfi hb hd
              refine arm_u rfl ?_
              have eg : g 61 = .bool false := value_u (hd ⟨7, .guard⟩ (by simp) rfl) rfl rfl
              refine op_yes rfl rfl rfl rfl eg ?_
              have e64 : g 64 = .pointer (some ⟨q, 0, none⟩) := value_u (hd ⟨10, .data⟩ (by simp) rfl) rfl rfl
              generalize hA : mkAct _ _ g = A
              have h64 : A.tmps[64]?.getD undef = .pointer (some ⟨q, 0, none⟩) := by rw [← hA, mkAct_in2 _ _ _ _ rfl rfl]; exact e64
              refine step_val (v := .pointer (some ⟨q, 0, none⟩)) (w' := w') ?_ ⟨rfl, Ext.refl _ _⟩
              simp [execOp, h64, Result.andThen, go_sem]
            case f12_6c =>
              intro f v g w' hJ hfi hb hd
              refine arm_u rfl ?_
              have eg : g 61 = .bool false := value_u (hd ⟨7, .guard⟩ (by simp) rfl) rfl rfl
              refine op_yes rfl rfl rfl rfl eg ?_
              have e65 : g 65 = .pointer (some ⟨q, 0, none⟩) := value_u (hd ⟨11, .data⟩ (by simp) rfl) rfl rfl
              generalize hA : mkAct _ _ g = A
              have h65 : A.tmps[65]?.getD undef = .pointer (some ⟨q, 0, none⟩) := by rw [← hA, mkAct_in2 _ _ _ _ rfl rfl]; exact e65
              refine step_val (v := .pointer (some ⟨q, 3, none⟩)) (w' := w') ?_ ⟨rfl, Ext.refl _ _⟩
              simp [execOp, h65, Result.andThen, go_sem]
            case f13_6c =>
              intro f v g w' hJ hfi hb hd
              refine arm_u rfl ?_
              have eg : g 61 = .bool false := value_u (hd ⟨7, .guard⟩ (by simp) rfl) rfl rfl
              refine op_yes rfl rfl rfl rfl eg ?_
              have e66 : g 66 = .pointer (some ⟨q, 3, none⟩) := value_u (hd ⟨12, .data⟩ (by simp) rfl) rfl rfl
              generalize hA : mkAct _ _ g = A
              have h66 : A.tmps[66]?.getD undef = .pointer (some ⟨q, 3, none⟩) := by rw [← hA, mkAct_in2 _ _ _ _ rfl rfl]; exact e66
              refine step_val (v := .pointer (some ⟨q, 3, none⟩)) (w' := w') ?_ ⟨rfl, Ext.refl _ _⟩
              simp [execOp, h66, Result.andThen, go_sem]
            case f14_6c =>
              intro f v g w' hJ hfi hb hd
              refine arm_u rfl ?_
              have eg : g 61 = .bool false := value_u (hd ⟨7, .guard⟩ (by simp) rfl) rfl rfl
              refine op_yes rfl rfl rfl rfl eg ?_
              have e67 : g 67 = .pointer (some ⟨q, 3, none⟩) := value_u (hd ⟨13, .data⟩ (by simp) rfl) rfl rfl
              generalize hA : mkAct _ _ g = A
              have h67 : A.tmps[67]?.getD undef = .pointer (some ⟨q, 3, none⟩) := by rw [← hA, mkAct_in2 _ _ _ _ rfl rfl]; exact e67
              have c := (cq6 w' hJ).2.2.2.1
              refine step_val (v := .int .i64 li) (w' := w') ?_ ⟨rfl, Ext.refl _ _⟩
              simp [execOp, h67, c, Result.andThen, go_sem]
            case f15_6c =>
              intro f v g w' hJ hfi hb hd
              refine arm_u rfl ?_
              have eg : g 61 = .bool false := value_u (hd ⟨7, .guard⟩ (by simp) rfl) rfl rfl
              refine op_yes rfl rfl rfl rfl eg ?_
              have e63 : g 63 = .int .i64 ri := value_u (hd ⟨9, .data⟩ (by simp) rfl) rfl rfl
              have e68 : g 68 = .int .i64 li := value_u (hd ⟨14, .data⟩ (by simp) rfl) rfl rfl
              generalize hA : mkAct _ _ g = A
              have h63 : A.tmps[63]?.getD undef = .int .i64 ri := by rw [← hA, mkAct_in2 _ _ _ _ rfl rfl]; exact e63
              have h68 : A.tmps[68]?.getD undef = .int .i64 li := by rw [← hA, mkAct_in2 _ _ _ _ rfl rfl]; exact e68
              refine step_val (v := .bool true) (w' := w') ?_ ⟨rfl, Ext.refl _ _⟩
              simp [execOp, e3, h63, h68, Result.andThen, go_sem]
            case f16_6c =>
              intro f v g w' hJ hfi hb hd
              refine arm_u rfl ?_
              refine op_run rfl ?_
              have e61 : g 61 = .bool false := value_u (hd ⟨7, .data⟩ (by simp) rfl) rfl rfl
              have e69 : g 69 = .bool true := value_u (hd ⟨15, .data⟩ (by simp) rfl) rfl rfl
              generalize hA : mkAct _ _ g = A
              have h61 : A.tmps[61]?.getD undef = .bool false := by rw [← hA, mkAct_in2 _ _ _ _ rfl rfl]; exact e61
              have h69 : A.tmps[69]?.getD undef = .bool true := by rw [← hA, mkAct_in2 _ _ _ _ rfl rfl]; exact e69
              refine step_val (v := .bool true) (w' := w') ?_ ⟨rfl, Ext.refl _ _⟩
              simp [execOp, h61, h69, Result.andThen, go_sem]
            case f17_6c =>
              intro f v g w' hJ hfi hb hd
              refine arm_u rfl ?_
              refine op_run rfl ?_
              have e70 : g 70 = .bool true := value_u (hd ⟨16, .data⟩ (by simp) rfl) rfl rfl
              generalize hA : mkAct _ _ g = A
              have h70 : A.tmps[70]?.getD undef = .bool true := by rw [← hA, mkAct_in2 _ _ _ _ rfl rfl]; exact e70
              refine step_val (v := .bool true) (w' := w') ?_ ⟨rfl, Ext.refl _ _⟩
              simp [execOp, h70, Result.andThen, go_sem]
            case f18_6c =>
              intro f v g w' hJ hfi hb hd
              refine arm_u rfl ?_
              have eg : g 71 = .bool true := value_u (hd ⟨17, .guard⟩ (by simp) rfl) rfl rfl
              exact op_no rfl rfl rfl rfl true eg (by decide) ⟨rfl, Ext.refl _ _⟩
            case f19_6c =>
              intro f v g w' hJ hfi hb hd
              refine arm_u rfl ?_
              have eg : g 71 = .bool true := value_u (hd ⟨17, .guard⟩ (by simp) rfl) rfl rfl
              exact op_no rfl rfl rfl rfl true eg (by decide) ⟨rfl, Ext.refl _ _⟩
            case f20_6c =>
              intro f v g w' hJ hfi hb hd
              refine arm_u rfl ?_
              have eg : g 71 = .bool true := value_u (hd ⟨17, .guard⟩ (by simp) rfl) rfl rfl
              exact op_no rfl rfl rfl rfl true eg (by decide) ⟨rfl, Ext.refl _ _⟩
            case f21_6c =>
              intro f v g w' hJ hfi hb hd
              refine arm_u rfl ?_
              have eg : g 71 = .bool true := value_u (hd ⟨17, .guard⟩ (by simp) rfl) rfl rfl
              exact op_no rfl rfl rfl rfl true eg (by decide) ⟨rfl, Ext.refl _ _⟩
            case f22_6c =>
              intro f v g w' hJ hfi hb hd
              refine arm_u rfl ?_
              refine op_run rfl ?_
              have e71 : g 71 = .bool true := value_u (hd ⟨17, .data⟩ (by simp) rfl) rfl rfl
              have e75 : g 75 = undef := value_u (hd ⟨21, .data⟩ (by simp) rfl) rfl rfl
              generalize hA : mkAct _ _ g = A
              have h71 : A.tmps[71]?.getD undef = .bool true := by rw [← hA, mkAct_in2 _ _ _ _ rfl rfl]; exact e71
              have h75 : A.tmps[75]?.getD undef = undef := by rw [← hA, mkAct_in2 _ _ _ _ rfl rfl]; exact e75
              refine step_val (v := .bool true) (w' := w') ?_ ⟨rfl, Ext.refl _ _⟩
              simp [execOp, h71, h75, Result.andThen, go_sem]
            case f23_6c =>
              intro f v g w' hJ hfi hb hd
              refine arm_u rfl ?_
              refine op_run rfl ?_
              have e76 : g 76 = .bool true := value_u (hd ⟨22, .data⟩ (by simp) rfl) rfl rfl
              generalize hA : mkAct _ _ g = A
              have h76 : A.tmps[76]?.getD undef = .bool true := by rw [← hA, mkAct_in2 _ _ _ _ rfl rfl]; exact e76
              refine step_val (v := .bool true) (w' := w') ?_ ⟨rfl, Ext.refl _ _⟩
              simp [execOp, h76, Result.andThen, go_sem]
            case f24_6c =>
              intro f v g w' hJ hfi hb hd
              refine arm_u rfl ?_
              have eg : g 77 = .bool true := value_u (hd ⟨23, .guard⟩ (by simp) rfl) rfl rfl
              exact op_no rfl rfl rfl rfl true eg (by decide) ⟨rfl, Ext.refl _ _⟩
            case f25_6c =>
              intro f v g w' hJ hfi hb hd
              refine arm_u rfl ?_
              have eg : g 77 = .bool true := value_u (hd ⟨23, .guard⟩ (by simp) rfl) rfl rfl
              exact op_no rfl rfl rfl rfl true eg (by decide) ⟨rfl, Ext.refl _ _⟩
            case f26_6c =>
              intro f v g w' hJ hfi hb hd
              refine arm_u rfl ?_
              have eg : g 77 = .bool true := value_u (hd ⟨23, .guard⟩ (by simp) rfl) rfl rfl
              exact op_no rfl rfl rfl rfl true eg (by decide) ⟨rfl, Ext.refl _ _⟩
            case f27_6c =>
              intro f v g w' hJ hfi hb hd
              refine arm_u rfl ?_
              have eg : g 77 = .bool true := value_u (hd ⟨23, .guard⟩ (by simp) rfl) rfl rfl
              exact op_no rfl rfl rfl rfl true eg (by decide) ⟨rfl, Ext.refl _ _⟩
            case f28_6c =>
              intro f v g w' hJ hfi hb hd
              refine arm_u rfl ?_
              have eg : g 77 = .bool true := value_u (hd ⟨23, .guard⟩ (by simp) rfl) rfl rfl
              exact op_no rfl rfl rfl rfl true eg (by decide) ⟨rfl, Ext.refl _ _⟩
            case f29_6c =>
              intro f v g w' hJ hfi hb hd
              refine arm_u rfl ?_
              have eg : g 77 = .bool true := value_u (hd ⟨23, .guard⟩ (by simp) rfl) rfl rfl
              exact op_no rfl rfl rfl rfl true eg (by decide) ⟨rfl, Ext.refl _ _⟩
            case f30_6c =>
              intro f v g w' hJ hfi hb hd
              refine arm_u rfl ?_
              have eg : g 77 = .bool true := value_u (hd ⟨23, .guard⟩ (by simp) rfl) rfl rfl
              exact op_no rfl rfl rfl rfl true eg (by decide) ⟨rfl, Ext.refl _ _⟩
            case f31_6c =>
              intro f v g w' hJ hfi hb hd
              refine arm_u rfl ?_
              have eg : g 77 = .bool true := value_u (hd ⟨23, .guard⟩ (by simp) rfl) rfl rfl
              exact op_no rfl rfl rfl rfl true eg (by decide) ⟨rfl, Ext.refl _ _⟩
            case f32_6c =>
              intro f v g w' hJ hfi hb hd
              refine arm_u rfl ?_
              have eg : g 77 = .bool true := value_u (hd ⟨23, .guard⟩ (by simp) rfl) rfl rfl
              exact op_no rfl rfl rfl rfl true eg (by decide) ⟨rfl, Ext.refl _ _⟩
            case f33_6c =>
              intro f v g w' hJ hfi hb hd
              refine arm_u rfl ?_
              have eg : g 77 = .bool true := value_u (hd ⟨23, .guard⟩ (by simp) rfl) rfl rfl
              exact op_no rfl rfl rfl rfl true eg (by decide) ⟨rfl, Ext.refl _ _⟩
            case f34_6c =>
              intro f v g w' hJ hfi hb hd
              refine arm_u rfl ?_
              have eg : g 77 = .bool true := value_u (hd ⟨23, .guard⟩ (by simp) rfl) rfl rfl
              exact op_no rfl rfl rfl rfl true eg (by decide) ⟨rfl, Ext.refl _ _⟩
            case f35_6c =>
              intro f v g w' hJ hfi hb hd
              refine arm_u rfl ?_
              have eg : g 77 = .bool true := value_u (hd ⟨23, .guard⟩ (by simp) rfl) rfl rfl
              exact op_no rfl rfl rfl rfl true eg (by decide) ⟨rfl, Ext.refl _ _⟩
            case f36_6c =>
              intro f v g w' hJ hfi hb hd
              refine arm_u rfl ?_
              have eg : g 77 = .bool true := value_u (hd ⟨23, .guard⟩ (by simp) rfl) rfl rfl
              exact op_no rfl rfl rfl rfl true eg (by decide) ⟨rfl, Ext.refl _ _⟩
            case f37_6c =>
              intro f v g w' hJ hfi hb hd
              refine arm_u rfl ?_
              refine op_run rfl ?_
              have e77 : g 77 = .bool true := value_u (hd ⟨23, .data⟩ (by simp) rfl) rfl rfl
              have e90 : g 90 = undef := value_u (hd ⟨36, .data⟩ (by simp) rfl) rfl rfl
              generalize hA : mkAct _ _ g = A
              have h77 : A.tmps[77]?.getD undef = .bool true := by rw [← hA, mkAct_in2 _ _ _ _ rfl rfl]; exact e77
              have h90 : A.tmps[90]?.getD undef = undef := by rw [← hA, mkAct_in2 _ _ _ _ rfl rfl]; exact e90
              refine step_val (v := .bool true) (w' := w') ?_ ⟨rfl, Ext.refl _ _⟩
              simp [execOp, h77, h90, Result.andThen, go_sem]
            case f38_6c =>
              intro f v g w' hJ hfi hb hd
              refine arm_u rfl ?_
              refine op_run rfl ?_
              have e91 : g 91 = .bool true := value_u (hd ⟨37, .data⟩ (by simp) rfl) rfl rfl
              generalize hA : mkAct _ _ g = A
              have h91 : A.tmps[91]?.getD undef = .bool true := by rw [← hA, mkAct_in2 _ _ _ _ rfl rfl]; exact e91
              refine step_val (v := .bool true) (w' := w') ?_ ⟨rfl, Ext.refl _ _⟩
              simp [execOp, h91, Result.andThen, go_sem]
          intro f v g wm hJ hk
          have e53 : g 53 = .bool true := value_u (hk 38 (by decide)) rfl rfl
          have hxe : Ext [] wn wm := by first | exact hJ | exact hJ.1
          clear hk hJ cq6 cs6 cm6 cq cs
          unfold mkAct; simp only [List.zipIdx_cons, List.zipIdx_nil, List.map_cons, List.map_nil, Nat.zero_add, Nat.reduceAdd, List.contains_cons, List.contains_nil, Nat.reduceBEq, Bool.or_false, Bool.or_true, ↓reduceIte, Bool.false_eq_true]
          rw [e53]
          go_wp2_with fail
          go_meet
          exact ⟨rfl, hxe⟩
      · obtain rfl : T = true := by rw [HT.out]; exact decide_eq_true (.inr (.inl e2))
        refine wp_region_u [54, 55, 56, 57, 58, 59, 60, 61, 62, 63, 64, 65, 66, 67, 68, 69, 70, 71, 72, 73, 74, 75, 76, 77, 78, 79, 80, 81, 82, 83, 84, 85, 86, 87, 88, 89, 90, 91, 53] [] (fun n => match n with | 0 => .int .i64 1 | 1 => .bool false | 2 => .bool false | 3 => .pointer (some ⟨L, 0, none⟩) | 4 => .int .i64 rk | 5 => .bool true | 6 => .bool true | 7 => .bool true | 8 => undef | 9 => undef | 10 => undef | 11 => undef | 12 => undef | 13 => undef | 14 => undef | 15 => undef | 16 => .bool true | 17 => .bool true | 18 => undef | 19 => undef | 20 => undef | 21 => undef | 22 => .bool true | 23 => .bool true | 24 => undef | 25 => undef | 26 => undef | 27 => undef | 28 => undef | 29 => undef | 30 => undef | 31 => undef | 32 => undef | 33 => undef | 34 => undef | 35 => undef | 36 => undef | 37 => .bool true | 38 => .bool true | _ => undef) (fun f v wx => Ext [] wn wx) (by kernel_rfl) (by kernel_rfl) ?hst0_6b ?h00_6b ?hst_6b ?hend_6b
        case hst0_6b =>
          exact fun f v w w' h hx => h.then0 hx
        case h00_6b =>
          exact Ext.refl _ _
        case hst_6b =>
          refine ⟨?f0_6b, ?f1_6b, ?f2_6b, ?f3_6b, ?f4_6b, ?f5_6b, ?f6_6b, ?f7_6b, ?f8_6b, ?f9_6b, ?f10_6b, ?f11_6b, ?f12_6b, ?f13_6b, ?f14_6b, ?f15_6b, ?f16_6b, ?f17_6b, ?f18_6b, ?f19_6b, ?f20_6b, ?f21_6b, ?f22_6b, ?f23_6b, ?f24_6b, ?f25_6b, ?f26_6b, ?f27_6b, ?f28_6b, ?f29_6b, ?f30_6b, ?f31_6b, ?f32_6b, ?f33_6b, ?f34_6b, ?f35_6b, ?f36_6b, ?f37_6b, ?f38_6b, trivial⟩
          case f0_6b =>
            intro f v g w' hJ hfi hb hd
            refine arm_u rfl ?_
            refine op_run rfl ?_
            generalize hA : mkAct _ _ g = A
            have h7 : A.tmps[7]?.getD undef = .int .i64 1 := by rw [← hA]; exact mkAct_out2 _ _ _ _ _ rfl rfl
            refine step_val (v := .int .i64 1) (w' := w') ?_ ⟨rfl, Ext.refl _ _⟩
            simp [execOp, h7, Result.andThen, go_sem]
          case f1_6b =>
            intro f v g w' hJ hfi hb hd
            refine arm_u rfl ?_
            refine op_run rfl ?_
            have e54 : g 54 = .int .i64 1 := value_u (hd ⟨0, .data⟩ (by simp) rfl) rfl rfl
            generalize hA : mkAct _ _ g = A
            have h54 : A.tmps[54]?.getD undef = .int .i64 1 := by rw [← hA, mkAct_in2 _ _ _ _ rfl rfl]; exact e54
            refine step_val (v := .bool false) (w' := w') ?_ ⟨rfl, Ext.refl _ _⟩
            simp [execOp, h54, Result.andThen, go_sem]
          case f2_6b =>
            intro f v g w' hJ hfi hb hd
            refine arm_u rfl ?_
            refine op_run rfl ?_
            have e55 : g 55 = .bool false := value_u (hd ⟨1, .data⟩ (by simp) rfl) rfl rfl
            generalize hA : mkAct _ _ g = A
            have h55 : A.tmps[55]?.getD undef = .bool false := by rw [← hA, mkAct_in2 _ _ _ _ rfl rfl]; exact e55
            refine step_val (v := .bool false) (w' := w') ?_ ⟨rfl, Ext.refl _ _⟩
            simp [execOp, h55, Result.andThen, go_sem]
          case f3_6b =>
            intro f v g w' hJ hfi hb hd
            refine arm_u rfl ?_
            have eg : g 56 = .bool false := value_u (hd ⟨2, .guard⟩ (by simp) rfl) rfl rfl
            refine op_yes rfl rfl rfl rfl eg ?_
            generalize hA : mkAct _ _ g = A
            have h6 : A.tmps[6]?.getD undef = .pointer (some ⟨L, 0, none⟩) := by rw [← hA]; exact mkAct_out2 _ _ _ _ _ rfl rfl
            refine step_val (v := .pointer (some ⟨L, 0, none⟩)) (w' := w') ?_ ⟨rfl, Ext.refl _ _⟩
            simp [execOp, h6, Result.andThen, go_sem]
          case f4_6b =>
            intro f v g w' hJ hfi hb hd
            refine arm_u rfl ?_
            have eg : g 56 = .bool false := value_u (hd ⟨2, .guard⟩ (by simp) rfl) rfl rfl
            refine op_yes rfl rfl rfl rfl eg ?_
            have e57 : g 57 = .pointer (some ⟨L, 0, none⟩) := value_u (hd ⟨3, .data⟩ (by simp) rfl) rfl rfl
            generalize hA : mkAct _ _ g = A
            have h57 : A.tmps[57]?.getD undef = .pointer (some ⟨L, 0, none⟩) := by rw [← hA, mkAct_in2 _ _ _ _ rfl rfl]; exact e57
            have c := (cm6 w' hJ).1
            refine step_val (v := .int .i64 rk) (w' := w') ?_ ⟨rfl, Ext.refl _ _⟩
            simp [execOp, h57, c, Result.andThen, go_sem]
          case f5_6b =>
            intro f v g w' hJ hfi hb hd
            refine arm_u rfl ?_
            have eg : g 56 = .bool false := value_u (hd ⟨2, .guard⟩ (by simp) rfl) rfl rfl
            refine op_yes rfl rfl rfl rfl eg ?_
            have e58 : g 58 = .int .i64 rk := value_u (hd ⟨4, .data⟩ (by simp) rfl) rfl rfl
            generalize hA : mkAct _ _ g = A
            have h58 : A.tmps[58]?.getD undef = .int .i64 rk := by rw [← hA, mkAct_in2 _ _ _ _ rfl rfl]; exact e58
            refine step_val (v := .bool true) (w' := w') ?_ ⟨rfl, Ext.refl _ _⟩
            simp [execOp, e2, h58, Result.andThen, go_sem]
          case f6_6b =>
            intro f v g w' hJ hfi hb hd
            refine arm_u rfl ?_
            refine op_run rfl ?_
            have e56 : g 56 = .bool false := value_u (hd ⟨2, .data⟩ (by simp) rfl) rfl rfl
            have e59 : g 59 = .bool true := value_u (hd ⟨5, .data⟩ (by simp) rfl) rfl rfl
            generalize hA : mkAct _ _ g = A
            have h56 : A.tmps[56]?.getD undef = .bool false := by rw [← hA, mkAct_in2 _ _ _ _ rfl rfl]; exact e56
            have h59 : A.tmps[59]?.getD undef = .bool true := by rw [← hA, mkAct_in2 _ _ _ _ rfl rfl]; exact e59
            refine step_val (v := .bool true) (w' := w') ?_ ⟨rfl, Ext.refl _ _⟩
            simp [execOp, h56, h59, Result.andThen, go_sem]
          case f7_6b =>
            intro f v g w' hJ hfi hb hd
            refine arm_u rfl ?_
            refine op_run rfl ?_
            have e60 : g 60 = .bool true := value_u (hd ⟨6, .data⟩ (by simp) rfl) rfl rfl
            generalize hA : mkAct _ _ g = A
            have h60 : A.tmps[60]?.getD undef = .bool true := by rw [← hA, mkAct_in2 _ _ _ _ rfl rfl]; exact e60
            refine step_val (v := .bool true) (w' := w') ?_ ⟨rfl, Ext.refl _ _⟩
            simp [execOp, h60, Result.andThen, go_sem]
          case f8_6b =>
            intro f v g w' hJ hfi hb hd
            refine arm_u rfl ?_
            have eg : g 61 = .bool true := value_u (hd ⟨7, .guard⟩ (by simp) rfl) rfl rfl
            exact op_no rfl rfl rfl rfl true eg (by decide) ⟨rfl, Ext.refl _ _⟩
          case f9_6b =>
            intro f v g w' hJ hfi hb hd
            refine arm_u rfl ?_
            have eg : g 61 = .bool true := value_u (hd ⟨7, .guard⟩ (by simp) rfl) rfl rfl
            exact op_no rfl rfl rfl rfl true eg (by decide) ⟨rfl, Ext.refl _ _⟩
          case f10_6b =>
            intro f v g w' hJ hfi hb hd
            refine arm_u rfl ?_
            have eg : g 61 = .bool true := value_u (hd ⟨7, .guard⟩ (by simp) rfl) rfl rfl
            exact op_no rfl rfl rfl rfl true eg (by decide) ⟨rfl, Ext.refl _ _⟩
          case f11_6b =>
            intro f v g w' hJ hfi hb hd
            refine arm_u rfl ?_
            have eg : g 61 = .bool true := value_u (hd ⟨7, .guard⟩ (by simp) rfl) rfl rfl
            exact op_no rfl rfl rfl rfl true eg (by decide) ⟨rfl, Ext.refl _ _⟩
          case f12_6b =>
            intro f v g w' hJ hfi hb hd
            refine arm_u rfl ?_
            have eg : g 61 = .bool true := value_u (hd ⟨7, .guard⟩ (by simp) rfl) rfl rfl
            exact op_no rfl rfl rfl rfl true eg (by decide) ⟨rfl, Ext.refl _ _⟩
          case f13_6b =>
            intro f v g w' hJ hfi hb hd
            refine arm_u rfl ?_
            have eg : g 61 = .bool true := value_u (hd ⟨7, .guard⟩ (by simp) rfl) rfl rfl
            exact op_no rfl rfl rfl rfl true eg (by decide) ⟨rfl, Ext.refl _ _⟩
          case f14_6b =>
            intro f v g w' hJ hfi hb hd
            refine arm_u rfl ?_
            have eg : g 61 = .bool true := value_u (hd ⟨7, .guard⟩ (by simp) rfl) rfl rfl
            exact op_no rfl rfl rfl rfl true eg (by decide) ⟨rfl, Ext.refl _ _⟩
          case f15_6b =>
            intro f v g w' hJ hfi hb hd
            refine arm_u rfl ?_
            have eg : g 61 = .bool true := value_u (hd ⟨7, .guard⟩ (by simp) rfl) rfl rfl
            exact op_no rfl rfl rfl rfl true eg (by decide) ⟨rfl, Ext.refl _ _⟩
          case f16_6b =>
            intro f v g w' hJ hfi hb hd
            refine arm_u rfl ?_
            refine op_run rfl ?_
            have e61 : g 61 = .bool true := value_u (hd ⟨7, .data⟩ (by simp) rfl) rfl rfl
            have e69 : g 69 = undef := value_u (hd ⟨15, .data⟩ (by simp) rfl) rfl rfl
            generalize hA : mkAct _ _ g = A
            have h61 : A.tmps[61]?.getD undef = .bool true := by rw [← hA, mkAct_in2 _ _ _ _ rfl rfl]; exact e61
            have h69 : A.tmps[69]?.getD undef = undef := by rw [← hA, mkAct_in2 _ _ _ _ rfl rfl]; exact e69
            refine step_val (v := .bool true) (w' := w') ?_ ⟨rfl, Ext.refl _ _⟩
            simp [execOp, h61, h69, Result.andThen, go_sem]
          case f17_6b =>
            intro f v g w' hJ hfi hb hd
            refine arm_u rfl ?_
            refine op_run rfl ?_
            have e70 : g 70 = .bool true := value_u (hd ⟨16, .data⟩ (by simp) rfl) rfl rfl
            generalize hA : mkAct _ _ g = A
            have h70 : A.tmps[70]?.getD undef = .bool true := by rw [← hA, mkAct_in2 _ _ _ _ rfl rfl]; exact e70
            refine step_val (v := .bool true) (w' := w') ?_ ⟨rfl, Ext.refl _ _⟩
            simp [execOp, h70, Result.andThen, go_sem]
          case f18_6b =>
            intro f v g w' hJ hfi hb hd
            refine arm_u rfl ?_
            have eg : g 71 = .bool true := value_u (hd ⟨17, .guard⟩ (by simp) rfl) rfl rfl
            exact op_no rfl rfl rfl rfl true eg (by decide) ⟨rfl, Ext.refl _ _⟩
          case f19_6b =>
            intro f v g w' hJ hfi hb hd
            refine arm_u rfl ?_
            have eg : g 71 = .bool true := value_u (hd ⟨17, .guard⟩ (by simp) rfl) rfl rfl
            exact op_no rfl rfl rfl rfl true eg (by decide) ⟨rfl, Ext.refl _ _⟩
          case f20_6b =>
            intro f v g w' hJ hfi hb hd
            refine arm_u rfl ?_
            have eg : g 71 = .bool true := value_u (hd ⟨17, .guard⟩ (by simp) rfl) rfl rfl
            exact op_no rfl rfl rfl rfl true eg (by decide) ⟨rfl, Ext.refl _ _⟩
          case f21_6b =>
            intro f v g w' hJ hfi hb hd
            refine arm_u rfl ?_
            have eg : g 71 = .bool true := value_u (hd ⟨17, .guard⟩ (by simp) rfl) rfl rfl
            exact op_no rfl rfl rfl rfl true eg (by decide) ⟨rfl, Ext.refl _ _⟩
          case f22_6b =>
            intro f v g w' hJ hfi hb hd
            refine arm_u rfl ?_
            refine op_run rfl ?_
            have e71 : g 71 = .bool true := value_u (hd ⟨17, .data⟩ (by simp) rfl) rfl rfl
            have e75 : g 75 = undef := value_u (hd ⟨21, .data⟩ (by simp) rfl) rfl rfl
            generalize hA : mkAct _ _ g = A
            have h71 : A.tmps[71]?.getD undef = .bool true := by rw [← hA, mkAct_in2 _ _ _ _ rfl rfl]; exact e71
            have h75 : A.tmps[75]?.getD undef = undef := by rw [← hA, mkAct_in2 _ _ _ _ rfl rfl]; exact e75
            refine step_val (v := .bool true) (w' := w') ?_ ⟨rfl, Ext.refl _ _⟩
            simp [execOp, h71, h75, Result.andThen, go_sem]
          case f23_6b =>
            intro f v g w' hJ hfi hb hd
            refine arm_u rfl ?_
            refine op_run rfl ?_
            have e76 : g 76 = .bool true := value_u (hd ⟨22, .data⟩ (by simp) rfl) rfl rfl
            generalize hA : mkAct _ _ g = A
            have h76 : A.tmps[76]?.getD undef = .bool true := by rw [← hA, mkAct_in2 _ _ _ _ rfl rfl]; exact e76
            refine step_val (v := .bool true) (w' := w') ?_ ⟨rfl, Ext.refl _ _⟩
            simp [execOp, h76, Result.andThen, go_sem]
          case f24_6b =>
            intro f v g w' hJ hfi hb hd
            refine arm_u rfl ?_
            have eg : g 77 = .bool true := value_u (hd ⟨23, .guard⟩ (by simp) rfl) rfl rfl
            exact op_no rfl rfl rfl rfl true eg (by decide) ⟨rfl, Ext.refl _ _⟩
          case f25_6b =>
            intro f v g w' hJ hfi hb hd
            refine arm_u rfl ?_
            have eg : g 77 = .bool true := value_u (hd ⟨23, .guard⟩ (by simp) rfl) rfl rfl
            exact op_no rfl rfl rfl rfl true eg (by decide) ⟨rfl, Ext.refl _ _⟩
          case f26_6b =>
            intro f v g w' hJ hfi hb hd
            refine arm_u rfl ?_
            have eg : g 77 = .bool true := value_u (hd ⟨23, .guard⟩ (by simp) rfl) rfl rfl
            exact op_no rfl rfl rfl rfl true eg (by decide) ⟨rfl, Ext.refl _ _⟩
          case f27_6b =>
            intro f v g w' hJ hfi hb hd
            refine arm_u rfl ?_
            have eg : g 77 = .bool true := value_u (hd ⟨23, .guard⟩ (by simp) rfl) rfl rfl
            exact op_no rfl rfl rfl rfl true eg (by decide) ⟨rfl, Ext.refl _ _⟩
          case f28_6b =>
            intro f v g w' hJ hfi hb hd
            refine arm_u rfl ?_
            have eg : g 77 = .bool true := value_u (hd ⟨23, .guard⟩ (by simp) rfl) rfl rfl
            exact op_no rfl rfl rfl rfl true eg (by decide) ⟨rfl, Ext.refl _ _⟩
          case f29_6b =>
            intro f v g w' hJ hfi hb hd
            refine arm_u rfl ?_
            have eg : g 77 = .bool true := value_u (hd ⟨23, .guard⟩ (by simp) rfl) rfl rfl
            exact op_no rfl rfl rfl rfl true eg (by decide) ⟨rfl, Ext.refl _ _⟩
          case f30_6b =>
            intro f v g w' hJ hfi hb hd
            refine arm_u rfl ?_
            have eg : g 77 = .bool true := value_u (hd ⟨23, .guard⟩ (by simp) rfl) rfl rfl
            exact op_no rfl rfl rfl rfl true eg (by decide) ⟨rfl, Ext.refl _ _⟩
          case f31_6b =>
            intro f v g w' hJ hfi hb hd
            refine arm_u rfl ?_
            have eg : g 77 = .bool true := value_u (hd ⟨23, .guard⟩ (by simp) rfl) rfl rfl
            exact op_no rfl rfl rfl rfl true eg (by decide) ⟨rfl, Ext.refl _ _⟩
          case f32_6b =>
            intro f v g w' hJ hfi hb hd
            refine arm_u rfl ?_
            have eg : g 77 = .bool true := value_u (hd ⟨23, .guard⟩ (by simp) rfl) rfl rfl
            exact op_no rfl rfl rfl rfl true eg (by decide) ⟨rfl, Ext.refl _ _⟩
          case f33_6b =>
            intro f v g w' hJ hfi hb hd
            refine arm_u rfl ?_
            have eg : g 77 = .bool true := value_u (hd ⟨23, .guard⟩ (by simp) rfl) rfl rfl
            exact op_no rfl rfl rfl rfl true eg (by decide) ⟨rfl, Ext.refl _ _⟩
          case f34_6b =>
            intro f v g w' hJ hfi hb hd
            refine arm_u rfl ?_
            have eg : g 77 = .bool true := value_u (hd ⟨23, .guard⟩ (by simp) rfl) rfl rfl
            exact op_no rfl rfl rfl rfl true eg (by decide) ⟨rfl, Ext.refl _ _⟩
          case f35_6b =>
            intro f v g w' hJ hfi hb hd
            refine arm_u rfl ?_
            have eg : g 77 = .bool true := value_u (hd ⟨23, .guard⟩ (by simp) rfl) rfl rfl
            exact op_no rfl rfl rfl rfl true eg (by decide) ⟨rfl, Ext.refl _ _⟩
          case f36_6b =>
            intro f v g w' hJ hfi hb hd
            refine arm_u rfl ?_
            have eg : g 77 = .bool true := value_u (hd ⟨23, .guard⟩ (by simp) rfl) rfl rfl
            exact op_no rfl rfl rfl rfl true eg (by decide) ⟨rfl, Ext.refl _ _⟩
          case f37_6b =>
            intro f v g w' hJ hfi hb hd
            refine arm_u rfl ?_
            refine op_run rfl ?_
            have e77 : g 77 = .bool true := value_u (hd ⟨23, .data⟩ (by simp) rfl) rfl rfl
            have e90 : g 90 = undef := value_u (hd ⟨36, .data⟩ (by simp) rfl) rfl rfl
            generalize hA : mkAct _ _ g = A
            have h77 : A.tmps[77]?.getD undef = .bool true := by rw [← hA, mkAct_in2 _ _ _ _ rfl rfl]; exact e77
            have h90 : A.tmps[90]?.getD undef = undef := by rw [← hA, mkAct_in2 _ _ _ _ rfl rfl]; exact e90
            refine step_val (v := .bool true) (w' := w') ?_ ⟨rfl, Ext.refl _ _⟩
            simp [execOp, h77, h90, Result.andThen, go_sem]
          case f38_6b =>
            intro f v g w' hJ hfi hb hd
            refine arm_u rfl ?_
            refine op_run rfl ?_
            have e91 : g 91 = .bool true := value_u (hd ⟨37, .data⟩ (by simp) rfl) rfl rfl
            generalize hA : mkAct _ _ g = A
            have h91 : A.tmps[91]?.getD undef = .bool true := by rw [← hA, mkAct_in2 _ _ _ _ rfl rfl]; exact e91
            refine step_val (v := .bool true) (w' := w') ?_ ⟨rfl, Ext.refl _ _⟩
            simp [execOp, h91, Result.andThen, go_sem]
        intro f v g wm hJ hk
        have e53 : g 53 = .bool true := value_u (hk 38 (by decide)) rfl rfl
        have hxe : Ext [] wn wm := by first | exact hJ | exact hJ.1
        clear hk hJ cq6 cs6 cm6 cq cs
        unfold mkAct; simp only [List.zipIdx_cons, List.zipIdx_nil, List.map_cons, List.map_nil, Nat.zero_add, Nat.reduceAdd, List.contains_cons, List.contains_nil, Nat.reduceBEq, Bool.or_false, Bool.or_true, ↓reduceIte, Bool.false_eq_true]
        rw [e53]
        go_wp2_with fail
        go_meet
        exact ⟨rfl, hxe⟩
    · obtain rfl : T = true := by rw [HT.out]; exact decide_eq_true (.inl e1)
      refine wp_region_u [54, 55, 56, 57, 58, 59, 60, 61, 62, 63, 64, 65, 66, 67, 68, 69, 70, 71, 72, 73, 74, 75, 76, 77, 78, 79, 80, 81, 82, 83, 84, 85, 86, 87, 88, 89, 90, 91, 53] [] (fun n => match n with | 0 => .int .i64 st | 1 => .bool true | 2 => .bool true | 3 => undef | 4 => undef | 5 => undef | 6 => .bool true | 7 => .bool true | 8 => undef | 9 => undef | 10 => undef | 11 => undef | 12 => undef | 13 => undef | 14 => undef | 15 => undef | 16 => .bool true | 17 => .bool true | 18 => undef | 19 => undef | 20 => undef | 21 => undef | 22 => .bool true | 23 => .bool true | 24 => undef | 25 => undef | 26 => undef | 27 => undef | 28 => undef | 29 => undef | 30 => undef | 31 => undef | 32 => undef | 33 => undef | 34 => undef | 35 => undef | 36 => undef | 37 => .bool true | 38 => .bool true | _ => undef) (fun f v wx => Ext [] wn wx) (by kernel_rfl) (by kernel_rfl) ?hst0_6a ?h00_6a ?hst_6a ?hend_6a
      case hst0_6a =>
        exact fun f v w w' h hx => h.then0 hx
      case h00_6a =>
        exact Ext.refl _ _
      case hst_6a =>
        refine ⟨?f0_6a, ?f1_6a, ?f2_6a, ?f3_6a, ?f4_6a, ?f5_6a, ?f6_6a, ?f7_6a, ?f8_6a, ?f9_6a, ?f10_6a, ?f11_6a, ?f12_6a, ?f13_6a, ?f14_6a, ?f15_6a, ?f16_6a, ?f17_6a, ?f18_6a, ?f19_6a, ?f20_6a, ?f21_6a, ?f22_6a, ?f23_6a, ?f24_6a, ?f25_6a, ?f26_6a, ?f27_6a, ?f28_6a, ?f29_6a, ?f30_6a, ?f31_6a, ?f32_6a, ?f33_6a, ?f34_6a, ?f35_6a, ?f36_6a, ?f37_6a, ?f38_6a, trivial⟩
        case f0_6a =>
          intro f v g w' hJ hfi hb hd
          refine arm_u rfl ?_
          refine op_run rfl ?_
          generalize hA : mkAct _ _ g = A
          have h7 : A.tmps[7]?.getD undef = .int .i64 st := by rw [← hA]; exact mkAct_out2 _ _ _ _ _ rfl rfl
          refine step_val (v := .int .i64 st) (w' := w') ?_ ⟨rfl, Ext.refl _ _⟩
          simp [execOp, h7, Result.andThen, go_sem]
        case f1_6a =>
          intro f v g w' hJ hfi hb hd
          refine arm_u rfl ?_
          refine op_run rfl ?_
          have e54 : g 54 = .int .i64 st := value_u (hd ⟨0, .data⟩ (by simp) rfl) rfl rfl
          generalize hA : mkAct _ _ g = A
          have h54 : A.tmps[54]?.getD undef = .int .i64 st := by rw [← hA, mkAct_in2 _ _ _ _ rfl rfl]; exact e54
          refine step_val (v := .bool true) (w' := w') ?_ ⟨rfl, Ext.refl _ _⟩
          simp [execOp, e1, h54, Result.andThen, go_sem]
        case f2_6a =>
          intro f v g w' hJ hfi hb hd
          refine arm_u rfl ?_
          refine op_run rfl ?_
          have e55 : g 55 = .bool true := value_u (hd ⟨1, .data⟩ (by simp) rfl) rfl rfl
          generalize hA : mkAct _ _ g = A
          have h55 : A.tmps[55]?.getD undef = .bool true := by rw [← hA, mkAct_in2 _ _ _ _ rfl rfl]; exact e55
          refine step_val (v := .bool true) (w' := w') ?_ ⟨rfl, Ext.refl _ _⟩
          simp [execOp, h55, Result.andThen, go_sem]
        case f3_6a =>
          intro f v g w' hJ hfi hb hd
          refine arm_u rfl ?_
          have eg : g 56 = .bool true := value_u (hd ⟨2, .guard⟩ (by simp) rfl) rfl rfl
          exact op_no rfl rfl rfl rfl true eg (by decide) ⟨rfl, Ext.refl _ _⟩
        case f4_6a =>
          intro f v g w' hJ hfi hb hd
          refine arm_u rfl ?_
          have eg : g 56 = .bool true := value_u (hd ⟨2, .guard⟩ (by simp) rfl) rfl rfl
          exact op_no rfl rfl rfl rfl true eg (by decide) ⟨rfl, Ext.refl _ _⟩
        case f5_6a =>
          intro f v g w' hJ hfi hb hd
          refine arm_u rfl ?_
          have eg : g 56 = .bool true := value_u (hd ⟨2, .guard⟩ (by simp) rfl) rfl rfl
          exact op_no rfl rfl rfl rfl true eg (by decide) ⟨rfl, Ext.refl _ _⟩
        case f6_6a =>
          intro f v g w' hJ hfi hb hd
          refine arm_u rfl ?_
          refine op_run rfl ?_
          have e56 : g 56 = .bool true := value_u (hd ⟨2, .data⟩ (by simp) rfl) rfl rfl
          have e59 : g 59 = undef := value_u (hd ⟨5, .data⟩ (by simp) rfl) rfl rfl
          generalize hA : mkAct _ _ g = A
          have h56 : A.tmps[56]?.getD undef = .bool true := by rw [← hA, mkAct_in2 _ _ _ _ rfl rfl]; exact e56
          have h59 : A.tmps[59]?.getD undef = undef := by rw [← hA, mkAct_in2 _ _ _ _ rfl rfl]; exact e59
          refine step_val (v := .bool true) (w' := w') ?_ ⟨rfl, Ext.refl _ _⟩
          simp [execOp, h56, h59, Result.andThen, go_sem]
        case f7_6a =>
          intro f v g w' hJ hfi hb hd
          refine arm_u rfl ?_
          refine op_run rfl ?_
          have e60 : g 60 = .bool true := value_u (hd ⟨6, .data⟩ (by simp) rfl) rfl rfl
          generalize hA : mkAct _ _ g = A
          have h60 : A.tmps[60]?.getD undef = .bool true := by rw [← hA, mkAct_in2 _ _ _ _ rfl rfl]; exact e60
          refine step_val (v := .bool true) (w' := w') ?_ ⟨rfl, Ext.refl _ _⟩
          simp [execOp, h60, Result.andThen, go_sem]
        case f8_6a =>
          intro f v g w' hJ hfi hb hd
          refine arm_u rfl ?_
          have eg : g 61 = .bool true := value_u (hd ⟨7, .guard⟩ (by simp) rfl) rfl rfl
          exact op_no rfl rfl rfl rfl true eg (by decide) ⟨rfl, Ext.refl _ _⟩
        case f9_6a =>
          intro f v g w' hJ hfi hb hd
          refine arm_u rfl ?_
          have eg : g 61 = .bool true := value_u (hd ⟨7, .guard⟩ (by simp) rfl) rfl rfl
          exact op_no rfl rfl rfl rfl true eg (by decide) ⟨rfl, Ext.refl _ _⟩
        case f10_6a =>
          intro f v g w' hJ hfi hb hd
          refine arm_u rfl ?_
          have eg : g 61 = .bool true := value_u (hd ⟨7, .guard⟩ (by simp) rfl) rfl rfl
          exact op_no rfl rfl rfl rfl true eg (by decide) ⟨rfl, Ext.refl _ _⟩
        case f11_6a =>
          intro f v g w' hJ hfi hb hd
          refine arm_u rfl ?_
          have eg : g 61 = .bool true := value_u (hd ⟨7, .guard⟩ (by simp) rfl) rfl rfl
          exact op_no rfl rfl rfl rfl true eg (by decide) ⟨rfl, Ext.refl _ _⟩
        case f12_6a =>
          intro f v g w' hJ hfi hb hd
          refine arm_u rfl ?_
          have eg : g 61 = .bool true := value_u (hd ⟨7, .guard⟩ (by simp) rfl) rfl rfl
          exact op_no rfl rfl rfl rfl true eg (by decide) ⟨rfl, Ext.refl _ _⟩
        case f13_6a =>
          intro f v g w' hJ hfi hb hd
          refine arm_u rfl ?_
          have eg : g 61 = .bool true := value_u (hd ⟨7, .guard⟩ (by simp) rfl) rfl rfl
          exact op_no rfl rfl rfl rfl true eg (by decide) ⟨rfl, Ext.refl _ _⟩
        case f14_6a =>
          intro f v g w' hJ hfi hb hd
          refine arm_u rfl ?_
          have eg : g 61 = .bool true := value_u (hd ⟨7, .guard⟩ (by simp) rfl) rfl rfl
          exact op_no rfl rfl rfl rfl true eg (by decide) ⟨rfl, Ext.refl _ _⟩
        case f15_6a =>
          intro f v g w' hJ hfi hb hd
          refine arm_u rfl ?_
          have eg : g 61 = .bool true := value_u (hd ⟨7, .guard⟩ (by simp) rfl) rfl rfl
          exact op_no rfl rfl rfl rfl true eg (by decide) ⟨rfl, Ext.refl _ _⟩
        case f16_6a =>
          intro f v g w' hJ hfi hb hd
          refine arm_u rfl ?_
          refine op_run rfl ?_
          have e61 : g 61 = .bool true := value_u (hd ⟨7, .data⟩ (by simp) rfl) rfl rfl
          have e69 : g 69 = undef := value_u (hd ⟨15, .data⟩ (by simp) rfl) rfl rfl
          generalize hA : mkAct _ _ g = A
          have h61 : A.tmps[61]?.getD undef = .bool true := by rw [← hA, mkAct_in2 _ _ _ _ rfl rfl]; exact e61
          have h69 : A.tmps[69]?.getD undef = undef := by rw [← hA, mkAct_in2 _ _ _ _ rfl rfl]; exact e69
          refine step_val (v := .bool true) (w' := w') ?_ ⟨rfl, Ext.refl _ _⟩
          simp [execOp, h61, h69, Result.andThen, go_sem]
        case f17_6a =>
          intro f v g w' hJ hfi hb hd
          refine arm_u rfl ?_
          refine op_run rfl ?_
          have e70 : g 70 = .bool true := value_u (hd ⟨16, .data⟩ (by simp) rfl) rfl rfl
          generalize hA : mkAct _ _ g = A
          have h70 : A.tmps[70]?.getD undef = .bool true := by rw [← hA, mkAct_in2 _ _ _ _ rfl rfl]; exact e70
          refine step_val (v := .bool true) (w' := w') ?_ ⟨rfl, Ext.refl _ _⟩
          simp [execOp, h70, Result.andThen, go_sem]
        case f18_6a =>
          intro f v g w' hJ hfi hb hd
          refine arm_u rfl ?_
          have eg : g 71 = .bool true := value_u (hd ⟨17, .guard⟩ (by simp) rfl) rfl rfl
          exact op_no rfl rfl rfl rfl true eg (by decide) ⟨rfl, Ext.refl _ _⟩
        case f19_6a =>
          intro f v g w' hJ hfi hb hd
          refine arm_u rfl ?_
          have eg : g 71 = .bool true := value_u (hd ⟨17, .guard⟩ (by simp) rfl) rfl rfl
          exact op_no rfl rfl rfl rfl true eg (by decide) ⟨rfl, Ext.refl _ _⟩
        case f20_6a =>
          intro f v g w' hJ hfi hb hd
          refine arm_u rfl ?_
          have eg : g 71 = .bool true := value_u (hd ⟨17, .guard⟩ (by simp) rfl) rfl rfl
          exact op_no rfl rfl rfl rfl true eg (by decide) ⟨rfl, Ext.refl _ _⟩
        case f21_6a =>
          intro f v g w' hJ hfi hb hd
          refine arm_u rfl ?_
          have eg : g 71 = .bool true := value_u (hd ⟨17, .guard⟩ (by simp) rfl) rfl rfl
          exact op_no rfl rfl rfl rfl true eg (by decide) ⟨rfl, Ext.refl _ _⟩
        case f22_6a =>
          intro f v g w' hJ hfi hb hd
          refine arm_u rfl ?_
          refine op_run rfl ?_
          have e71 : g 71 = .bool true := value_u (hd ⟨17, .data⟩ (by simp) rfl) rfl rfl
          have e75 : g 75 = undef := value_u (hd ⟨21, .data⟩ (by simp) rfl) rfl rfl
          generalize hA : mkAct _ _ g = A
          have h71 : A.tmps[71]?.getD undef = .bool true := by rw [← hA, mkAct_in2 _ _ _ _ rfl rfl]; exact e71
          have h75 : A.tmps[75]?.getD undef = undef := by rw [← hA, mkAct_in2 _ _ _ _ rfl rfl]; exact e75
          refine step_val (v := .bool true) (w' := w') ?_ ⟨rfl, Ext.refl _ _⟩
          simp [execOp, h71, h75, Result.andThen, go_sem]
        case f23_6a =>
          intro f v g w' hJ hfi hb hd
          refine arm_u rfl ?_
          refine op_run rfl ?_
          have e76 : g 76 = .bool true := value_u (hd ⟨22, .data⟩ (by simp) rfl) rfl rfl
          generalize hA : mkAct _ _ g = A
          have h76 : A.tmps[76]?.getD undef = .bool true := by rw [← hA, mkAct_in2 _ _ _ _ rfl rfl]; exact e76
          refine step_val (v := .bool true) (w' := w') ?_ ⟨rfl, Ext.refl _ _⟩
          simp [execOp, h76, Result.andThen, go_sem]
        case f24_6a =>
          intro f v g w' hJ hfi hb hd
          refine arm_u rfl ?_
          have eg : g 77 = .bool true := value_u (hd ⟨23, .guard⟩ (by simp) rfl) rfl rfl
          exact op_no rfl rfl rfl rfl true eg (by decide) ⟨rfl, Ext.refl _ _⟩
        case f25_6a =>
          intro f v g w' hJ hfi hb hd
          refine arm_u rfl ?_
          have eg : g 77 = .bool true := value_u (hd ⟨23, .guard⟩ (by simp) rfl) rfl rfl
          exact op_no rfl rfl rfl rfl true eg (by decide) ⟨rfl, Ext.refl _ _⟩
        case f26_6a =>
          intro f v g w' hJ hfi hb hd
          refine arm_u rfl ?_
          have eg : g 77 = .bool true := value_u (hd ⟨23, .guard⟩ (by simp) rfl) rfl rfl
          exact op_no rfl rfl rfl rfl true eg (by decide) ⟨rfl, Ext.refl _ _⟩
        case f27_6a =>
          intro f v g w' hJ hfi hb hd
          refine arm_u rfl ?_
          have eg : g 77 = .bool true := value_u (hd ⟨23, .guard⟩ (by simp) rfl) rfl rfl
          exact op_no rfl rfl rfl rfl true eg (by decide) ⟨rfl, Ext.refl _ _⟩
        case f28_6a =>
          intro f v g w' hJ hfi hb hd
          refine arm_u rfl ?_
          have eg : g 77 = .bool true := value_u (hd ⟨23, .guard⟩ (by simp) rfl) rfl rfl
          exact op_no rfl rfl rfl rfl true eg (by decide) ⟨rfl, Ext.refl _ _⟩
        case f29_6a =>
          intro f v g w' hJ hfi hb hd
          refine arm_u rfl ?_
          have eg : g 77 = .bool true := value_u (hd ⟨23, .guard⟩ (by simp) rfl) rfl rfl
          exact op_no rfl rfl rfl rfl true eg (by decide) ⟨rfl, Ext.refl _ _⟩
        case f30_6a =>
          intro f v g w' hJ hfi hb hd
          refine arm_u rfl ?_
          have eg : g 77 = .bool true := value_u (hd ⟨23, .guard⟩ (by simp) rfl) rfl rfl
          exact op_no rfl rfl rfl rfl true eg (by decide) ⟨rfl, Ext.refl _ _⟩
        case f31_6a =>
          intro f v g w' hJ hfi hb hd
          refine arm_u rfl ?_
          have eg : g 77 = .bool true := value_u (hd ⟨23, .guard⟩ (by simp) rfl) rfl rfl
          exact op_no rfl rfl rfl rfl true eg (by decide) ⟨rfl, Ext.refl _ _⟩
        case f32_6a =>
          intro f v g w' hJ hfi hb hd
          refine arm_u rfl ?_
          have eg : g 77 = .bool true := value_u (hd ⟨23, .guard⟩ (by simp) rfl) rfl rfl
          exact op_no rfl rfl rfl rfl true eg (by decide) ⟨rfl, Ext.refl _ _⟩
        case f33_6a =>
          intro f v g w' hJ hfi hb hd
          refine arm_u rfl ?_
          have eg : g 77 = .bool true := value_u (hd ⟨23, .guard⟩ (by simp) rfl) rfl rfl
          exact op_no rfl rfl rfl rfl true eg (by decide) ⟨rfl, Ext.refl _ _⟩
        case f34_6a =>
          intro f v g w' hJ hfi hb hd
          refine arm_u rfl ?_
          have eg : g 77 = .bool true := value_u (hd ⟨23, .guard⟩ (by simp) rfl) rfl rfl
          exact op_no rfl rfl rfl rfl true eg (by decide) ⟨rfl, Ext.refl _ _⟩
        case f35_6a =>
          intro f v g w' hJ hfi hb hd
          refine arm_u rfl ?_
          have eg : g 77 = .bool true := value_u (hd ⟨23, .guard⟩ (by simp) rfl) rfl rfl
          exact op_no rfl rfl rfl rfl true eg (by decide) ⟨rfl, Ext.refl _ _⟩
        case f36_6a =>
          intro f v g w' hJ hfi hb hd
          refine arm_u rfl ?_
          have eg : g 77 = .bool true := value_u (hd ⟨23, .guard⟩ (by simp) rfl) rfl rfl
          exact op_no rfl rfl rfl rfl true eg (by decide) ⟨rfl, Ext.refl _ _⟩
        case f37_6a =>
          intro f v g w' hJ hfi hb hd
          refine arm_u rfl ?_
          refine op_run rfl ?_
          have e77 : g 77 = .bool true := value_u (hd ⟨23, .data⟩ (by simp) rfl) rfl rfl
          have e90 : g 90 = undef := value_u (hd ⟨36, .data⟩ (by simp) rfl) rfl rfl
          generalize hA : mkAct _ _ g = A
          have h77 : A.tmps[77]?.getD undef = .bool true := by rw [← hA, mkAct_in2 _ _ _ _ rfl rfl]; exact e77
          have h90 : A.tmps[90]?.getD undef = undef := by rw [← hA, mkAct_in2 _ _ _ _ rfl rfl]; exact e90
          refine step_val (v := .bool true) (w' := w') ?_ ⟨rfl, Ext.refl _ _⟩
          simp [execOp, h77, h90, Result.andThen, go_sem]
        case f38_6a =>
          intro f v g w' hJ hfi hb hd
          refine arm_u rfl ?_
          refine op_run rfl ?_
          have e91 : g 91 = .bool true := value_u (hd ⟨37, .data⟩ (by simp) rfl) rfl rfl
          generalize hA : mkAct _ _ g = A
          have h91 : A.tmps[91]?.getD undef = .bool true := by rw [← hA, mkAct_in2 _ _ _ _ rfl rfl]; exact e91
          refine step_val (v := .bool true) (w' := w') ?_ ⟨rfl, Ext.refl _ _⟩
          simp [execOp, h91, Result.andThen, go_sem]
      intro f v g wm hJ hk
      have e53 : g 53 = .bool true := value_u (hk 38 (by decide)) rfl rfl
      have hxe : Ext [] wn wm := by first | exact hJ | exact hJ.1
      clear hk hJ cq6 cs6 cm6 cq cs
      unfold mkAct; simp only [List.zipIdx_cons, List.zipIdx_nil, List.map_cons, List.map_nil, Nat.zero_add, Nat.reduceAdd, List.contains_cons, List.contains_nil, Nat.reduceBEq, Bool.or_false, Bool.or_true, ↓reduceIte, Bool.false_eq_true]
      rw [e53]
      go_wp2_with fail
      go_meet
      exact ⟨rfl, hxe⟩
  case rest =>
    obtain ⟨rfl, HJ⟩ := hcut
    cases T with
    | true =>
      have hE6 : Hid (E = 6) := Hid.of (by rw [HE.out, if_pos]; exact of_decide_eq_true HT.out.symm)
      have hV6 : Hid (DV = []) := Hid.of (by rw [HV.out, hE6.out]; rfl)
      clear HE HV HT cq6 cs6 cm6 cq cs
      go_wp2
      go_ret2
      exact HP.out _ _ _ hV6.out hE6.out (HX3.out.then0 HJ.out)
    | false =>
      have hE6 : Hid (E = 0) := Hid.of (by rw [HE.out, if_neg]; exact of_decide_eq_false HT.out.symm)
      have hV6 : Hid (DV = rd) := Hid.of (by rw [HV.out, hE6.out]; rfl)
      have c3 := (cm6 wc HJ.out).2.2.2
      clear HE HV HT cq6 cs6 cm6 cq cs
      go_wp2
      go_ret2
      exact HP.out _ _ _ hV6.out hE6.out (HX3.out.then0 HJ.out)
theorem StM.chunk (h : StM w0 w q b sv D s n O) (hf : Fine D n V 0) (k : Int) : Calls Try.prog 24 #[.pointer (some ⟨q, 0, none⟩), .int .i64 k] w (ChPost s V k w) := by
  by_cases hk : s.area < 0 ∨ k < 0 ∨ (s.list.sums.length : Int) ≤ k
  · exact chunk_none h k hk
  · exact chunk_in h hf k hk
end
end Go.Proofs.Ytlnfigbcdmfmdaa
