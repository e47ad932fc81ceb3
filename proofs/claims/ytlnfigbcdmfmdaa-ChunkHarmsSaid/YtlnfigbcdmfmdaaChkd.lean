/- Package chunk: Of. -/
import Derived.Test.YtlnfigbcdmfmdaaChkc
import Derived.Test.YtlnfigbcdmfmdaaStep
namespace Go.Proofs.Ytlnfigbcdmfmdaa
open Go.RowKit
set_option linter.unusedVariables false
set_option linter.unusedSimpArgs false

/-- A call of a Go function as a step of a region that draws its order. -/
theorem step_calls {P : Program} {ops : Array Oper} {o : Oper} {a : Act} {w : World} {K : Act → World → Prop} {Q : Exit → Act → World → Prop} {E : Prop}
    (hg : o.guard = none) (f : FuncId) (xs : Array Operand) (ts : Array TypeId) (hop : o.op = Op.call { callee := Callee.value (Operand.func f), args := xs, argTypes := ts })
    (hen : ∀ args w, (callFunc f args).run P w = .ok (.enter f args) w) (args : Array Value) (ha : xs.map a.eval = args)
    {R : Ending → World → Prop} (hc : Calls P f args w R) (hK : ∀ e w', R e w' → ∃ v, e = .returned v ∧ K (a.put o.dst v) w') :
    if Region.wanted o (yielded ops a.tmps) = true then Oper.wp P o a w K Q else E := by
  have hw : Region.wanted o (yielded ops a.tmps) = true := by simp [Region.wanted, hg]
  rw [if_pos hw]
  refine step_call (f := f) (args := args) (w' := w) ?_ (hc.mono fun e w' h => hK e w' h)
  subst ha
  simp [execOp, hop, resolve, invoke, Act.eval, Deferred.ofValue, hen]
theorem ent_of (args : Array Value) (w : World) : (callFunc 18 args).run Try.prog w = .ok (.enter 18 args) w := enters_of Try.func18 (by kernel_rfl) rfl args w
/-- A list handed back, its checksums in a row of the call's own. -/
def LsNew (w : World) (l : Ls) (e : Ending) (w' : World) : Prop := ∃ sv, e = .returned (lsv l sv) ∧ Own w' 35 1 sv l.sums.length (l.sums.map u32c) ∧ Ext [] w w' ∧ ∀ z ∈ vblocks sv, w.heap.size ≤ z
theorem ofStr_any (l : List UInt8) (w : World) (z : Nat) (hb : Blk w z 9 [str l]) (hl : l.length ≤ 1000000000) :
    Calls Try.prog 18 #[.slice (some ⟨z, 0, none⟩) 1 1] w fun e w' => e = .returned (.int .u32 (u32v (sumOf l))) ∧ Ext [] w w' := by
  have h := of_any (some ⟨z, 0, none⟩) 1 1 [l] w (by omega) (by intro t ht; simp at ht; subst ht; unfold maxLen; omega)
    ⟨rfl, _, _, rfl, Nat.le_refl _, by unfold maxLen; omega, (fun h => by cases h), fun g hg j u hu => by cases hg; rw [Addr.add_lit, Nat.zero_add, Blk.c hb j]; exact hu⟩
  have e : [l].flatten = l := by simp
  rwa [e] at h
set_option maxHeartbeats 3200000 in
theorem ofl_any (i t : Int) (d : List UInt8) (w : World) (hd : d.length ≤ 1000000000) :
    Calls Try.prog 20 #[.int .i64 i, .int .i64 t, str d] w (LsNew w (ofL i t d)) := by
  have cc := fun w' => cut_any d w' hd
  have hn : (cutL d).length ≤ 1000000000 := by rw [cutL_length]; omega
  have hdl : ∀ p ∈ cutL d, p.length ≤ 400 := by
    intro p hp
    obtain ⟨j, hj, rfl⟩ := List.mem_iff_getElem.1 hp
    exact (cutL_piece d j hj).2.2.1
  have HL : Hid (ofL i t d = ⟨i, t, d.length, (cutL d).map sumOf⟩) := Hid.of rfl
  have hd2 : (d.length : Int) ≤ 1000000000 := by omega
  obtain ⟨ps, hps⟩ : ∃ ps, ps = cutL d := ⟨_, rfl⟩
  rw [← hps] at cc hn hdl HL
  have HD := Hid.of hdl
  obtain ⟨dl, hdl'⟩ : ∃ n, d.length = n := ⟨_, rfl⟩
  rw [hdl'] at HL hd2
  clear hps hd hdl
  go_enter Try.func20, Try.ntmps20
  go_upto_region 2 with fail
  clear hdl'
  obtain ⟨E, hE⟩ : ∃ E, w.heap.size = E := ⟨_, rfl⟩
  obtain ⟨W, hW⟩ : ∃ W, W = (w.alloc (.cells #[.int .i64 0, .int .i64 0, .int .i64 0, .slice none 0 0] 42)).alloc (.cells #[.int .i64 i, .int .i64 t, .int .i64 (dl : Int), .slice none 0 0] 42) := ⟨_, rfl⟩
  have hxW : Ext [] w W := by rw [hW]; exact ((Ext.refl _ _).alloc _).alloc _
  have hsW : W.heap.size = E + 2 := by rw [← hE, hW]; simp
  have hbE : Blk W E 42 [.int .i64 0, .int .i64 0, .int .i64 0, .slice none 0 0] := by rw [← hE, hW]; exact (Blk.new w 42 #[.int .i64 0, .int .i64 0, .int .i64 0, .slice none 0 0]).alloc _
  have hbL : Blk W (E + 1) 42 [.int .i64 i, .int .i64 t, .int .i64 (dl : Int), .slice none 0 0] := by
    rw [← hE, hW]
    have := Blk.new (w.alloc (.cells #[.int .i64 0, .int .i64 0, .int .i64 0, .slice none 0 0] 42)) 42 #[.int .i64 i, .int .i64 t, .int .i64 (dl : Int), .slice none 0 0]
    simpa using this
  rw [hE, ← hW]
  clear hW
  have hLE : E < E + 1 := by omega
  generalize E + 1 = L at hbL hLE ⊢
  go_wp2_with fail
  refine (cc W).mono ?_
  rintro e w1 ⟨sv, rfl, ho1, hx1, hv1⟩
  obtain ⟨sa, sc, rfl⟩ := Rd.isSlice ho1.rd
  have hr1 := ho1.rd
  have hb1 := Blk.keep hbL hx1 (by simp)
  have hE1 := Blk.keep hbE hx1 (by simp)
  have hL1 := Blk.lt hb1
  have hLW := Blk.lt hbL
  have hs1 := hx1.size
  have hblt := ho1.lt
  have hxw1 := hxW.then0 hx1
  clear cc ho1 hbL hbE hxW hx1
  have HR := Hid.of hr1
  clear hr1
  go_wp2_with fail
  go_loopw [18] (fun u18 wr => ∃ (k : Nat) (v : Value), u18 = .int .i64 (k : Int) ∧ k ≤ ps.length ∧ Blk wr L 42 [.int .i64 i, .int .i64 t, .int .i64 (dl : Int), v] ∧ Own wr 35 1 v k ((ps.take k).map fun p => u32c (sumOf p)) ∧ (∀ z ∈ vblocks v, w1.heap.size ≤ z) ∧ Ext [L] w1 wr) (fun u18 _ => ps.length - (intOf u18).toNat)
  case atStart => exact ⟨0, _, rfl, by omega, hb1, Own.nil _ _ _, by simp [vblocks], Ext.refl _ _⟩
  case round =>
    obtain ⟨k, v, rfl, hk, hb, ho, hv, hx⟩ := hrel
    by_cases hlt : k < ps.length
    · have hrr := Rd.keep HR.out hx (fun z hz hm => by simp at hm; subst hm; have := hv1 z hz; omega)
      obtain ⟨g, off, rfl, hgw, hc⟩ := Rd.view hrr (by omega)
      have c0 := hc k (str ps[k]) (by simp [hlt])
      have hp := HD.out ps[k] (List.getElem_mem _)
      have htk : Hid (((ps.take (k + 1)).map fun p => u32c (sumOf p)) = ((ps.take k).map fun p => u32c (sumOf p)) ++ [u32c (sumOf ps[k])]) := Hid.of (by rw [List.take_succ_eq_append_getElem hlt, List.map_append]; rfl)
      obtain ⟨p, hpp⟩ : ∃ p, p = ps[k] := ⟨_, rfl⟩
      rw [← hpp] at c0 hp htk
      clear hpp hc hrr
      have c3 : ∀ n, (wr.drewN n).cell? ⟨L, 3, none⟩ = some v := fun n => Blk.c (Blk.keep hb ((Ext.refl [] wr).drewN n) (by simp)) 3
      have c3w : wr.cell? ⟨L, 3, none⟩ = some v := c3 0
      obtain ⟨va, vc, rfl⟩ := Rd.isSlice ho.rd
      have hk9 : k ≤ 1000000000 := by omega
      have c3a : (wr.alloc (.cells #[str p] 9)).cell? ⟨L, 3, none⟩ = some (.slice va k vc) := Blk.c (hb.alloc (.cells #[str p] 9)) 3
      go_wp2_with fail
      go_region_law (first
        | (refine step_calls rfl 18 _ _ rfl ent_of #[.slice (some ⟨wr.heap.size, 0, none⟩) 1 1] (by first | (simp [Act.eval]; done) | (simp [Act.eval, Act.put]; done)) (ofStr_any p _ wr.heap.size (Blk.keep (Blk.new wr 9 #[str p]) ((Ext.refl [] _).drew) (by simp)) (by omega)) ?_; rintro e w5 ⟨rfl, hx5⟩; refine ⟨_, rfl, ?_⟩; have HX5 := Hid.of ((((Ext.refl [] wr).alloc _).drew).then0 hx5); have hb5 := Blk.keep hb HX5.out (by simp); have ho5 := ho.keep HX5.out (by simp); have c35 : w5.cell? ⟨L, 3, none⟩ = some (.slice va k vc) := Blk.c hb5 3; have c35a : (w5.alloc (.cells #[.int .u32 (u32v (sumOf p))] 35)).cell? ⟨L, 3, none⟩ = some (.slice va k vc) := Blk.c (hb5.alloc _) 3; clear hx5)
        | (refine step_append rfl _ _ _ rfl 35 (.int .u32 0) 1 4 el_sums (.slice va k vc) k _ rfl (ho5.alloc _) (.slice (some ⟨w5.heap.size, 0, none⟩) 1 1) 1 [u32c (sumOf p)] rfl (Rd.lit w5 #[.int .u32 (u32v (sumOf p))] 35 1 1 rfl (by unfold maxLen; omega)) (by simp [u32c, Value.oneCell']) (by omega) (by unfold maxLen; omega) ?_; intro v6 w6 ho6 hx6 hv6; obtain ⟨a6, c6, rfl⟩ := Rd.isSlice (Own.rd ho6); have HX6 := Hid.of (((HX5.out.lift (vblocks (.slice va k vc))).alloc _).trans hx6 (fun z hz => .inl (by simpa using hz))); have hb6 := Blk.keep hb HX6.out (fun hm => by have := hv L (by simpa using hm); omega); have c36 : w6.cell? ⟨L, 3, none⟩ = some (.slice va k vc) := Blk.c hb6 3; have f36 := Blk.f hb6 3))
      all_goals (
        have hv6' : ∀ z ∈ vblocks (.slice a6 (k + 1) c6), w1.heap.size ≤ z := (by
          intro z hz
          have h5 := HX5.out.size
          have hxs := hx.size
          rcases hv6 with h | h
          · exact hv z (h ▸ hz)
          · rw [h] at hz; simp at hz; omega)
        have hx7 : Ext [L] w1 (w6.setCell ⟨L, 3, none⟩ (.slice a6 (k + 1) c6)) := (hx.trans HX6.out (fun z hz => .inr (hv z (by simpa using hz)))).setCell (.inl (by simp)) _
        have hb7 := Blk.set hb6 3 (.slice a6 (k + 1) c6)
        have ho7 : Own (w6.setCell ⟨L, 3, none⟩ (.slice a6 (k + 1) c6)) 35 1 (.slice a6 (k + 1) c6) (k + 1) ((ps.take (k + 1)).map fun p => u32c (sumOf p)) := (by
          rw [htk.out]
          exact ho6.keep ((Ext.refl [L] w6).setCell (.inl (by simp)) _) (fun z hz hm => by simp at hm; subst hm; have := hv6' z hz; omega))
        clear hb6 ho6 hv6 c36 f36 HX6 HX5 hb5 ho5 c35 c35a c3 c3w c3a c0 hb ho hx hx6
        go_wp2
        go_roundw
        case rel => exact ⟨k + 1, _, by go_num, by omega, hb7, ho7, hv6', hx7⟩
        case measure => simp [intOf]; omega)
    · have hkl : k = ps.length := by omega
      have hE2 := Blk.keep hE1 hx (by simp; omega)
      have hEl := Blk.lt hE2
      have ho2 : Own wr 35 1 v ps.length (ps.map fun p => u32c (sumOf p)) := by rw [hkl, List.take_of_length_le (Nat.le_refl _)] at ho; exact ho
      have c0 : wr.cell? ⟨L, 0, none⟩ = some (.int .i64 i) := Blk.c hb 0
      have c1 : wr.cell? ⟨L, 1, none⟩ = some (.int .i64 t) := Blk.c hb 1
      have c2 : wr.cell? ⟨L, 2, none⟩ = some (.int .i64 dl) := Blk.c hb 2
      have c3 : wr.cell? ⟨L, 3, none⟩ = some v := Blk.c hb 3
      have e0 : wr.cell? ⟨E, 0, none⟩ = some (.int .i64 0) := Blk.c hE2 0
      have e1 : wr.cell? ⟨E, 1, none⟩ = some (.int .i64 0) := Blk.c hE2 1
      have e2 : wr.cell? ⟨E, 2, none⟩ = some (.int .i64 0) := Blk.c hE2 2
      have e3 : wr.cell? ⟨E, 3, none⟩ = some (.slice none 0 0) := Blk.c hE2 3
      have ef := fun j => Blk.f hE2 j
      obtain ⟨va, vc, rfl⟩ := Rd.isSlice ho2.rd
      have HO := Hid.of ho2
      have HX := Hid.of hx
      have HE := Hid.of hE2
      clear ho ho2 hb hkl hx hE2
      go_wp2
      have hxs : Ext [E] wr ((((wr.setCell ⟨E, 0, none⟩ (.int .i64 i)).setCell ⟨E, 1, none⟩ (.int .i64 t)).setCell ⟨E, 2, none⟩ (.int .i64 dl)).setCell ⟨E, 3, none⟩ (.slice va ps.length vc)) := ((((Ext.refl [E] wr).setCell (.inl (by simp)) _).setCell (.inl (by simp)) _).setCell (.inl (by simp)) _).setCell (.inl (by simp)) _
      have hb9 := Blk.set (Blk.set (Blk.set (Blk.set HE.out 0 (.int .i64 i)) 1 (.int .i64 t)) 2 (.int .i64 dl)) 3 (.slice va ps.length vc)
      have d0 := Blk.c hb9 0
      have d1 := Blk.c hb9 1
      have d2 := Blk.c hb9 2
      have d3 := Blk.c hb9 3
      simp only [List.set_cons_zero, List.set_cons_succ, List.getElem?_cons_zero, List.getElem?_cons_succ] at d0 d1 d2 d3
      refine bodyPost_ret (v := lsv ⟨i, t, dl, ps.map sumOf⟩ (.slice va ps.length vc)) (by simp [results, Try.results20, lsv, go_sem, d0, d1, d2, d3]) rfl ?_
      refine ⟨.slice va ps.length vc, by rw [HL.out], ?_, (hxw1.trans HX.out (by simp; omega)).trans hxs (by simp; omega), fun z hz => by have := hv z hz; have := hxw1.size; omega⟩
      rw [HL.out]
      have := HO.out.keep hxs (fun z hz hm => by simp at hm; subst hm; have := hv z hz; omega)
      simp only [List.map_map, List.length_map]
      exact this

theorem Rd.ofBlk1 {w : World} {z : Nat} {t : TypeId} {cs : List Value} {n : Nat} (hb : Blk w z t cs) (hl : cs.length = n) (hm : n ≤ 1000) : Rd w 1 (.slice (some ⟨z, 0, none⟩) n n) n cs :=
  ⟨by omega, some ⟨z, 0, none⟩, n, rfl, Nat.le_refl _, by unfold maxLen; omega, (fun h => by cases h), fun g hg j u hu => by cases hg; rw [Addr.add_lit, Nat.zero_add, Blk.c hb j]; exact hu⟩
set_option maxHeartbeats 3200000 in
theorem recl_any (l : Ls) (sv : Value) (w : World) (hs : Sums w sv l.sums) (hlen : l.sums.length ≤ 64) :
    Calls Try.prog 58 #[lsv l sv] w fun e w' => e = .returned (recL l).val ∧ Ext [] w w' := by
  obtain ⟨i, t, n, xs⟩ := l
  simp only at hs hlen
  obtain ⟨a, cap, rfl⟩ := Rd.isSlice hs
  have hl9 : (xs.length : Int) ≤ 64 := by omega
  have HD : Hid (recL ⟨i, t, n, xs⟩ = ⟨4, i, t, encNums [n, (xs.length : Int)] ++ encNums (xs.map u32v)⟩) := Hid.of rfl
  have HS := Hid.of hs
  unfold lsv
  simp only
  obtain ⟨m, hm⟩ : ∃ m, xs.length = m := ⟨_, rfl⟩
  rw [hm] at hl9 HD ⊢
  clear hs hlen
  go_enter Try.func58, Try.ntmps58
  obtain ⟨E, hE⟩ : ∃ E, w.heap.size = E := ⟨_, rfl⟩
  obtain ⟨W, hW⟩ : ∃ W, W = (w.alloc (.cells #[.int .i64 i, .int .i64 t, .int .i64 n, .slice a m cap] 42)).alloc (.cells #[.int .i64 0, .int .i64 0, .int .i64 0, .string ⟨#[]⟩] 63) := ⟨_, rfl⟩
  have hxW : Ext [] w W := by rw [hW]; exact ((Ext.refl _ _).alloc _).alloc _
  have hsW : W.heap.size = E + 2 := by rw [← hE, hW]; simp
  have hbE : Blk W E 42 [.int .i64 i, .int .i64 t, .int .i64 n, .slice a m cap] := by rw [← hE, hW]; exact (Blk.new w 42 #[.int .i64 i, .int .i64 t, .int .i64 n, .slice a m cap]).alloc _
  have hbL : Blk W (E + 1) 63 [.int .i64 0, .int .i64 0, .int .i64 0, .string ⟨#[]⟩] := by
    rw [← hE, hW]
    have := Blk.new (w.alloc (.cells #[.int .i64 i, .int .i64 t, .int .i64 n, .slice a m cap] 42)) 63 #[.int .i64 0, .int .i64 0, .int .i64 0, .string ⟨#[]⟩]
    simpa using this
  go_wp2_with fail
  rw [← hW]
  clear hW
  have hnils := encNums_length [n, (m : Int)]
  refine (num_any (.slice none 0 0) [] _ 2 2 [n, (m : Int)] _ (by omega) (by simp) (OwnB.nil _) (Rd.litg (w := W) #[.int .i64 n, .int .i64 m] 3 1 2 rfl (by unfold maxLen; omega) hsW) (by simp [vblocks])).mono ?_
  rintro e w1 ⟨v1, rfl, ho1, hx1, hv1⟩
  have hx1' : Ext [] W w1 := ((Ext.refl _ _).alloc _).then0 hx1
  have hb1 := Blk.keep hbE hx1' (by simp)
  have hr1 := Blk.keep hbL hx1' (by simp)
  have hxw1 := hxW.then0 hx1'
  have hv1' : ∀ z ∈ vblocks v1, E + 2 < z := fun z hz => by
    rcases hv1 z hz with h | h
    · simp [vblocks] at h
    · simp at h; omega
  have HSw := Hid.of (HS.out.keep0 hxw1)
  have hnl : (encNums [n, (m : Int)]).length = 12 := by rw [encNums_length]; rfl
  obtain ⟨B, hB⟩ : ∃ B, B = encNums [n, (m : Int)] := ⟨_, rfl⟩
  rw [← hB] at HD hnl
  rw [List.nil_append, ← hB] at ho1
  clear hB hx1 hx1' hbE hbL hv1 hnils hxW hsW
  have d3 : w1.cell? ⟨E, 3, none⟩ = some (.slice a m cap) := Blk.c hb1 3
  go_wp2_with fail
  go_loopw [3, 16] (fun u3 u16 wr => ∃ k : Nat, u16 = .int .i64 (k : Int) ∧ k ≤ m ∧ OwnB wr u3 (B ++ encNums ((xs.take k).map u32v)) ∧ (∀ z ∈ vblocks u3, E + 2 < z) ∧ Ext [] w wr ∧ Blk wr E 42 [.int .i64 i, .int .i64 t, .int .i64 n, .slice a m cap] ∧ Blk wr (E + 1) 63 [.int .i64 0, .int .i64 0, .int .i64 0, .string ⟨#[]⟩]) (fun _ u16 _ => m - (intOf u16).toNat)
  case atStart => exact ⟨0, rfl, by omega, by simpa [encNums] using ho1, hv1', hxw1, hb1, hr1⟩
  case round =>
    clear ho1 hv1' hxw1 hb1 hr1 d3
    obtain ⟨k, rfl, hk, ho, hv, hx, hb, hr⟩ := hrel
    by_cases hlt : k < m
    · have hsr := HS.out.keep0 hx
      obtain ⟨g, off, rfl, hgw, hc⟩ := Rd.view hsr (by omega)
      have hkx : k < xs.length := by omega
      have c0 : wr.cell? ⟨g, off + k, none⟩ = some (.int .u32 (u32v xs[k])) := hc k (u32c xs[k]) (by rw [List.getElem?_map, List.getElem?_eq_getElem hkx]; rfl)
      have hu0 := u32v_lo xs[k]
      have hu1 := u32v_hi xs[k]
      have htk : Hid (encNums ((xs.take (k + 1)).map u32v) = encNums ((xs.take k).map u32v) ++ encNums [u32v xs[k]]) := Hid.of (by rw [List.take_succ_eq_append_getElem hkx, List.map_append, encNums_append]; rfl)
      have hlb : (B ++ encNums ((xs.take k).map u32v)).length ≤ 1000 := by rw [List.length_append, encNums_length, List.length_map, List.length_take]; omega
      obtain ⟨C, hC⟩ : ∃ C, C = B ++ encNums ((xs.take k).map u32v) := ⟨_, rfl⟩
      rw [← hC] at ho hlb
      have HC := Hid.of hC
      generalize u32v xs[k] = y at c0 hu0 hu1 htk
      have hs9 := ho.lt
      have HSr := Hid.of hsr
      clear hC hsr hc
      go_wp2_with fail
      refine (num_any u3 C _ 1 1 [y] _ (by omega) (by omega) (OwnB.keep ho ((Ext.refl [] wr).alloc _) (by simp)) (Rd.litg (w := wr) #[.int .i64 y] 3 1 1 rfl (by unfold maxLen; omega) rfl) (by simp [vblocks]; intro hm; have := hs9 _ hm; omega)).mono ?_
      rintro e w5 ⟨v5, rfl, ho5, hx5, hv5⟩
      have hx5' : Ext (vblocks u3) wr w5 := ((Ext.refl (vblocks u3) wr).alloc _).trans hx5 (fun z hz => .inl hz)
      have hxw : Ext [] w w5 := hx.trans hx5' (fun z hz => by have := hv z hz; right; omega)
      have hb5 := Blk.keep hb hx5' (fun hm => by have := hv _ hm; omega)
      have hr5 := Blk.keep hr hx5' (fun hm => by have := hv _ hm; omega)
      have hv5' : ∀ z ∈ vblocks v5, E + 2 < z := fun z hz => by
        rcases hv5 z hz with h | h
        · exact hv z h
        · have := Blk.lt hr; simp at h; have h3 := hx.size; omega
      have ho6 : OwnB w5 v5 (B ++ encNums ((xs.take (k + 1)).map u32v)) := by rw [htk.out, ← List.append_assoc, ← HC.out]; exact ho5
      clear ho5 hx5 hx5' hv5 ho hv hx hb hr c0 hu0 hu1 htk hlb HC hs9 HSr
      go_wp2
      go_roundw
      case rel => exact ⟨k + 1, by go_num, by omega, ho6, hv5', hxw, hb5, hr5⟩
      case measure => simp [intOf]; omega
    · have hkm : k = m := by omega
      have ho2 : OwnB wr u3 (B ++ encNums (xs.map u32v)) := by rw [hkm, List.take_of_length_le (by omega)] at ho; exact ho
      have hst := ho2.str
      have c0 : wr.cell? ⟨E, 0, none⟩ = some (.int .i64 i) := Blk.c hb 0
      have c1 : wr.cell? ⟨E, 1, none⟩ = some (.int .i64 t) := Blk.c hb 1
      have e0 : wr.cell? ⟨E + 1, 0, none⟩ = some (.int .i64 0) := Blk.c hr 0
      have e1 : wr.cell? ⟨E + 1, 1, none⟩ = some (.int .i64 0) := Blk.c hr 1
      have e2 : wr.cell? ⟨E + 1, 2, none⟩ = some (.int .i64 0) := Blk.c hr 2
      have e3 : wr.cell? ⟨E + 1, 3, none⟩ = some (.string ⟨#[]⟩) := Blk.c hr 3
      have ef := fun j => Blk.f hr j
      have HR := Hid.of hr
      have HX := Hid.of hx
      obtain ⟨D, hD⟩ : ∃ D, D = B ++ encNums (xs.map u32v) := ⟨_, rfl⟩
      rw [← hD] at HD hst
      clear ho ho2 hkm hr hx hD hb
      go_wp2
      have hb9 := Blk.set (Blk.set (Blk.set (Blk.set HR.out 0 (.int .i64 4)) 1 (.int .i64 i)) 2 (.int .i64 t)) 3 (.string ⟨D.toArray⟩)
      have d0 := Blk.c hb9 0
      have d1 := Blk.c hb9 1
      have d2 := Blk.c hb9 2
      have d3 := Blk.c hb9 3
      simp only [List.set_cons_zero, List.set_cons_succ, List.getElem?_cons_zero, List.getElem?_cons_succ] at d0 d1 d2 d3
      refine bodyPost_ret (v := Rc.val ⟨4, i, t, D⟩) (by simp [results, Try.results58, Rc.val, go_sem, d0, d1, d2, d3]) rfl ?_
      refine ⟨by rw [HD.out], ?_⟩
      have hge : w.heap.size ≤ E + 1 := by omega
      exact (((HX.out.setCell (p := ⟨E + 1, 0, none⟩) (.inr hge) _).setCell (p := ⟨E + 1, 1, none⟩) (.inr hge) _).setCell (p := ⟨E + 1, 2, none⟩) (.inr hge) _).setCell (p := ⟨E + 1, 3, none⟩) (.inr hge) _
end Go.Proofs.Ytlnfigbcdmfmdaa
