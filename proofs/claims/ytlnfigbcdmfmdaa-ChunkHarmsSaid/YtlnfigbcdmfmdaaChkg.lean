/- Package chunk: Open. (Printed by wip/gen_open7.py.) -/
import Derived.Test.YtlnfigbcdmfmdaaChkf
import Derived.BigQuiet
namespace Go.Proofs.Ytlnfigbcdmfmdaa
open Go.RowKit
set_option linter.unusedVariables false
set_option linter.unusedSimpArgs false

theorem DevO.addL {w0 w w' : World} {b : Nat} {D : Dv} {O : List Nat} (h : DevO w0 w b D O) (hx : Ext [] w w') (L : List Nat) (hL : ∀ z ∈ L, w.heap.size ≤ z ∧ z < w'.heap.size) : DevO w0 w' b D (L ++ O) := by
  obtain ⟨⟨F, hF, hl, ho⟩, h3, h4⟩ := h
  obtain ⟨F', hF', hs⟩ := hF.small
  refine ⟨⟨F', hF'.keep0 hx, fun k hk => hl k (hs k hk).1, fun p hp => ?_⟩, h3.then0 hx, h4⟩
  rcases List.mem_append.1 hp with hp | hp
  · exact ⟨fun hm => by have := (hs _ hm).2; have := (hL p hp).1; omega, (hL p hp).2⟩
  · exact ⟨fun hm => (ho p hp).1 (hs _ hm).1, Nat.lt_of_lt_of_le (ho p hp).2 hx.size⟩
theorem sread_v {w0 w : World} {b : Nat} {D : Dv} {O : List Nat} {n : Int} {V : Int → Sl} {s : Nat} (h : DevO w0 w b D O) (hf : Fine D n V s) (k : Int) (h1 : 0 ≤ k) (h2 : k < n) :
    Calls Try.prog 30 #[.pointer (some ⟨b, 0, none⟩), .int .i64 k] w fun e w' => e = .returned (.tuple #[(V k).2.val, .int .i64 (V k).1, .int .i64 0]) ∧ Ext [] w w' := by
  obtain ⟨g1, g2, g3⟩ := hf.read h1 h2
  refine (sread_o b D k w0 w _ h).mono ?_
  rintro e w2 ⟨rfl, -, hx2⟩
  rw [g1, g2, g3]
  exact ⟨rfl, hx2⟩
theorem Fine.dlen {D : Dv} {n : Int} {V : Int → Sl} {s : Nat} (h : Fine D n V s) {k : Int} (h1 : 0 ≤ k) (h2 : k < n) : (V k).2.data.length ≤ 488 := by
  obtain ⟨g1, g2, g3⟩ := h.sound h1 h2
  by_cases e : (V k).1 = 1
  · exact (putE_ok (g2 e)).2
  · rw [g3 e]; simp [Rc.zero]
theorem scanS_ok (base : Int) (V : Int → Sl) : ∀ j, j ≤ 4 → ((scanS base V j).1 = -1 ∧ (scanS base V j).2 = Ls.zero) ∨ (((scanS base V j).1 = 0 ∨ (scanS base V j).1 = 1) ∧ (scanS base V j).2.right)
  | 0, _ => .inl ⟨rfl, rfl⟩
  | j + 1, h => by
    have ih := scanS_ok base V j (by omega)
    have e : scanS base V (j + 1) = candS ((j / 2 : Nat) : Int) (V (base + ((j / 2 : Nat) : Int) * 66 + ((j % 2 : Nat) : Int))) (scanS base V j) := rfl
    rw [e]
    generalize V (base + ((j / 2 : Nat) : Int) * 66 + ((j % 2 : Nat) : Int)) = x
    unfold candS
    split
    · rename_i hc
      refine .inr ⟨?_, lsOk_right hc.2.1⟩
      simp only
      omega
    · exact ih
theorem openSt_ok {base n : Int} {V : Int → Sl} (h1 : 0 ≤ base) (h2 : base + 132 ≤ n) (h3 : n ≤ 4096) : StOk (openSt base V) n := by
  have h := scanS_ok base V 4 (by omega)
  refine ⟨h1, h2, h3, ?_, ?_, ?_⟩
  · rcases h with ⟨e, _⟩ | ⟨e | e, _⟩
    · exact .inl e
    · exact .inr (.inl e)
    · exact .inr (.inr e)
  · rcases h with h | ⟨_, h⟩
    · exact .inl h
    · exact .inr h
  · intro hn
    rcases h with ⟨e, _⟩ | ⟨_, h⟩
    · exact absurd e hn
    · exact h
theorem scanS_area (base : Int) (V : Int → Sl) (j : Nat) (hj : j ≤ 4) : -1 ≤ (scanS base V j).1 ∧ (scanS base V j).1 ≤ 1 := by
  rcases scanS_ok base V j hj with ⟨e, _⟩ | ⟨e | e, _⟩ <;> omega
/-- What Open's rounds keep. -/
def OpenI (w0 : World) (q b : Nat) (D : Dv) (base : Int) (V : Int → Sl) (O : List Nat) (W : World) (j : Nat) (wr : World) : Prop :=
  ∃ sv, StB wr q b sv ⟨base, (scanS base V j).1, (scanS base V j).2⟩ ∧ Sums wr sv (scanS base V j).2.sums ∧ q ∉ vblocks sv ∧ DevO w0 wr b D (q :: (vblocks sv ++ O)) ∧ Ext [q] W wr ∧ ∀ z ∈ vblocks sv, W.heap.size ≤ z
/-- What Open hands back. -/
def Open7 (w0 w : World) (b : Nat) (D : Dv) (s : Sto) (n : Int) (O : List Nat) (e : Ending) (w' : World) : Prop :=
  ∃ q sv, e = .returned (.tuple #[.pointer (some ⟨q, 0, none⟩), .int .i64 0]) ∧ StM w0 w' q b sv D s n O ∧ Ext [] w w' ∧ w.heap.size ≤ q
theorem Blk4 {w : World} {R : Nat} {t : TypeId} {a b c d : Value} (h : Blk w R t [a, b, c, d]) : w.cell? ⟨R, 0, none⟩ = some a ∧ w.cell? ⟨R, 1, none⟩ = some b ∧ w.cell? ⟨R, 2, none⟩ = some c ∧ w.cell? ⟨R, 3, none⟩ = some d := ⟨Blk.c h 0, Blk.c h 1, Blk.c h 2, Blk.c h 3⟩
set_option maxRecDepth 100000 in
set_option maxHeartbeats 12800000 in
theorem open7_o {w0 w : World} {b : Nat} {D : Dv} {n : Int} {V : Int → Sl} {O : List Nat} (h : DevO w0 w b D O) (hf : Fine D n V 0) (base : Int) (h1 : 0 ≤ base) (h2 : base + 132 ≤ n) :
    Calls Try.prog 13 #[.pointer (some ⟨b, 0, none⟩), .int .i64 base] w (Open7 w0 w b D (openSt base V) n O) := by
  have hbig := hf.big
  have cz := fun w' (hx : Ext [] w w') => size_n b D w0 w' (h.keep hx).n
  rw [hf.size] at cz
  have HF := Hid.of hf
  have HD := Hid.of h
  have HOl := Hid.of h.lt
  have hsz := h.ext.size
  have hg1 : decide (base < 0) = false := decide_eq_false (by omega)
  have hg2 : decide (n - 132 < base) = false := decide_eq_false (by omega)
  clear h hf
  go_enter Try.func13, Try.ntmps13
  go_upto_region 4 with (first
    | (go_at_call 35; (with_reducible refine (cz _ (Ext.refl _ _)).mono ?_); rintro e w1 ⟨rfl, rfl⟩))
  obtain ⟨q, hq⟩ : ∃ q, w.heap.size = q := ⟨_, rfl⟩
  obtain ⟨W, hW⟩ : ∃ W, W = w.alloc (.cells #[.pointer (some ⟨b, 0, none⟩), .int .i64 base, .int .i64 (-1), .int .i64 0, .int .i64 0, .int .i64 0, .slice none 0 0] 84) := ⟨_, rfl⟩
  have hxW : Ext [] w W := by rw [hW]; exact (Ext.refl _ _).alloc _
  have hbq : Blk W q 84 [.pointer (some ⟨b, 0, none⟩), .int .i64 base, .int .i64 (-1), .int .i64 0, .int .i64 0, .int .i64 0, .slice none 0 0] := by rw [← hq, hW]; exact Blk.new w 84 #[.pointer (some ⟨b, 0, none⟩), .int .i64 base, .int .i64 (-1), .int .i64 0, .int .i64 0, .int .i64 0, .slice none 0 0]
  have HI0 : Hid (OpenI w0 q b D base V O W 0 W) := Hid.of ⟨.slice none 0 0, hbq, ⟨rfl, none, 0, rfl, Nat.le_refl _, Nat.zero_le _, fun _ => ⟨rfl, rfl⟩, fun _ h => by cases h⟩, by simp [vblocks], (HD.out.add hxW q (by omega) (Blk.lt hbq)), Ext.refl _ _, by simp [vblocks]⟩
  have hqW := Blk.lt hbq
  rw [hq, ← hW]
  have HXW := Hid.of hxW
  have HQ0 : Hid (w0.heap.size ≤ q) := Hid.of (by omega)
  clear hW hbq hxW cz HD
  go_wp2_with fail
  go_loopw [27] (fun u27 wr => ∃ a : Nat, u27 = .int .i64 (a : Int) ∧ a ≤ 2 ∧ Hid (OpenI w0 q b D base V O W (2 * a) wr)) (fun u27 _ => 2 - (intOf u27).toNat)
  case atStart => exact ⟨0, rfl, by omega, HI0⟩
  case round =>
    obtain ⟨a, rfl, ha, hI⟩ := hrel
    by_cases ha2 : a < 2
    · have ha2' : decide ((a : Int) < 2) = true := decide_eq_true (by omega)
      go_wp2_with fail
      go_loopw [30] (fun u30 wr => ∃ k : Nat, u30 = .int .i64 (k : Int) ∧ k ≤ 2 ∧ Hid (OpenI w0 q b D base V O W (2 * a + k) wr)) (fun u30 _ => 2 - (intOf u30).toNat)
      case atStart => exact ⟨0, rfl, by omega, hI⟩
      case round =>
        clear hI
        obtain ⟨k, rfl, hk, hI⟩ := hrel
        by_cases hk2 : k < 2
        · obtain ⟨sv, hB, hS, hn, hd, hx, hfr⟩ := hI.out
          have HFr := Hid.of hfr
          clear hfr
          have hok := scanS_area base V (2 * a + k) (by omega)
          have HA := Hid.of (scanS_ok base V (2 * a + k) (by omega))
          have hstep : Hid (scanS base V (2 * a + (k + 1)) = candS (a : Int) (V (base + a * 66 + k)) (scanS base V (2 * a + k))) := Hid.of (by
            have e1 : (2 * a + k) / 2 = a := by omega
            have e2 : (2 * a + k) % 2 = k := by omega
            have e : scanS base V (2 * a + (k + 1)) = candS (((2 * a + k) / 2 : Nat) : Int) (V (base + (((2 * a + k) / 2 : Nat) : Int) * 66 + (((2 * a + k) % 2 : Nat) : Int))) (scanS base V (2 * a + k)) := rfl
            rw [e, e1, e2])
          have cb := block_o (s := ⟨base, (scanS base V (2 * a + k)).1, (scanS base V (2 * a + k)).2⟩) hB ⟨h1, by show base ≤ 4096; omega⟩ a k ⟨by omega, by omega⟩ ⟨by omega, by omega⟩
          have cr := fun w' (hx : Ext [] wr w') => sread_v (hd.keep hx) HF.out (base + a * 66 + k) (by omega) (by omega)
          have hdl := HF.out.dlen (k := base + a * 66 + k) (by omega) (by omega)
          have eb : (⟨base, (scanS base V (2 * a + k)).1, (scanS base V (2 * a + k)).2⟩ : Sto).b a k = base + a * 66 + k := rfl
          rw [eb] at cb
          clear eb
          generalize hsc : scanS base V (2 * a + k) = sc at hB hS hok HA hstep cb
          obtain ⟨ar, l0⟩ := sc
          simp only at hB hS hok HA hstep
          generalize V (base + a * 66 + k) = x at cr hdl hstep
          obtain ⟨st, r⟩ := x
          simp only at cr hdl
          have HB := Hid.of hB
          have HS := Hid.of hS
          have HN := Hid.of hn
          have HDv := Hid.of hd
          have HX := Hid.of hx
          generalize base + (a : Int) * 66 + k = B at cb cr
          have hxs := hx.size
          have hRc := r
          have clo := fun w' => listOf_any r w' (by omega)
          obtain ⟨rk, ri, rt, rd⟩ := r
          simp only [Rc.val] at cr clo
          clear hB hS hn hd hx hI hsc hRc
          go_upto_region 11 with (first
            | (go_at_call 36; (with_reducible refine cb.mono ?_); rintro e w2 ⟨rfl, hx2⟩; have HX2 := Hid.of hx2; clear cb hx2)
            | (go_at_call 30; (with_reducible refine (cr _ HX2.out).mono ?_); rintro e w3 ⟨rfl, hx3⟩; have HX3 := Hid.of (HX2.out.then0 hx3); clear cr hx3 HX2))
          obtain ⟨R, hR⟩ : ∃ R, w3.heap.size = R := ⟨_, rfl⟩
          obtain ⟨W4, hW4⟩ : ∃ W4, W4 = w3.alloc (.cells #[.int .i64 rk, .int .i64 ri, .int .i64 rt, .string ⟨rd.toArray⟩] 63) := ⟨_, rfl⟩
          have HX4 : Hid (Ext [] wr W4) := Hid.of (by rw [hW4]; exact HX3.out.alloc _)
          have HR4 : Hid (Blk W4 R 63 [.int .i64 rk, .int .i64 ri, .int .i64 rt, str rd]) := Hid.of (by rw [← hR, hW4]; exact Blk.new w3 63 #[.int .i64 rk, .int .i64 ri, .int .i64 rt, str rd])
          rw [hR, ← hW4]
          clear hW4 hR HX3
          obtain ⟨r0, r1, r2, r3⟩ := Blk4 HR4.out
          go_upto_region 14 with (first
            | (go_at_call 37; (with_reducible refine (clo _).mono ?_); rintro e w5 ⟨sl, rfl, ho5, hx5, hv5⟩; simp only [lsv]; have HO5 := Hid.of ho5; have HX5 := Hid.of hx5; have HV5 := Hid.of hv5; obtain ⟨sa, sc, rfl⟩ := Rd.isSlice ho5.rd; clear ho5 hx5 hv5 clo)
            | fail)
          have hlr : lsOk ⟨rk, ri, rt, rd⟩ = true → (lsOf ⟨rk, ri, rt, rd⟩).right := fun h => lsOk_right h
          have HC : Hid (candS (a : Int) (st, ⟨rk, ri, rt, rd⟩) (ar, l0) = if st = 1 ∧ lsOk ⟨rk, ri, rt, rd⟩ = true ∧ (ar < 0 ∨ l0.idx < (lsOf ⟨rk, ri, rt, rd⟩).idx) then ((a : Int), lsOf ⟨rk, ri, rt, rd⟩) else (ar, l0)) := Hid.of rfl
          generalize lsOf ⟨rk, ri, rt, rd⟩ = l at HC hlr HO5 HV5 ⊢
          generalize lsOk ⟨rk, ri, rt, rd⟩ = ok at HC hlr ⊢
          obtain ⟨M, hM⟩ : ∃ M, w5.heap.size = M := ⟨_, rfl⟩
          obtain ⟨W6, hW6⟩ : ∃ W6, W6 = w5.alloc (.cells #[.int .i64 l.idx, .int .i64 l.term, .int .i64 l.bytes, .slice sa l.sums.length sc] 42) := ⟨_, rfl⟩
          have hx56 : Ext [] w5 W6 := by rw [hW6]; exact (Ext.refl _ _).alloc _
          have HX6 : Hid (Ext [] wr W6) := Hid.of ((HX4.out.then0 HX5.out).then0 hx56)
          have HX46 : Hid (Ext [] W4 W6) := Hid.of (HX5.out.then0 hx56)
          have HM6 : Hid (Blk W6 M 42 [.int .i64 l.idx, .int .i64 l.term, .int .i64 l.bytes, .slice sa l.sums.length sc]) := Hid.of (by rw [← hM, hW6]; exact Blk.new w5 42 #[.int .i64 l.idx, .int .i64 l.term, .int .i64 l.bytes, .slice sa l.sums.length sc])
          have HS6 : Hid (Sums W6 (.slice sa l.sums.length sc) l.sums) := Hid.of (Sums.keep0 HO5.out.rd hx56)
          have HZ6 : Hid (∀ z ∈ vblocks (.slice sa l.sums.length sc), W4.heap.size ≤ z ∧ z < W6.heap.size) := Hid.of (fun z hz => ⟨HV5.out z hz, Nat.lt_of_lt_of_le (HO5.out.lt z hz) hx56.size⟩)
          have HQ6 : Hid (q < wr.heap.size) := Hid.of (Blk.lt HB.out)
          have HMq : Hid (M ≠ q) := Hid.of (by have := HQ6.out; have := HX4.out.size; have := HX5.out.size; omega)
          rw [hM, ← hW6]
          clear hW6 hM hx56 HO5 HX5 HV5 r0 r1 r2 r3
          obtain ⟨T, hT⟩ : ∃ T, T = decide (st = 1 ∧ ok = true ∧ (ar < 0 ∨ l0.idx < l.idx)) := ⟨_, rfl⟩
          have HT := Hid.of hT
          clear hT
          go_cut [72] from 31 to 81 (fun v wx => v = .bool T ∧ Hid (Ext [] W6 wx))
          case first =>
            have cq := fun w' (hx : Ext [] W6 w') => StB.cells (Blk.keep HB.out (HX6.out.then0 hx) (by simp))
            have cm := fun w' (hx : Ext [] W6 w') => Blk4 (Blk.keep HM6.out hx (by simp))
            by_cases e1 : st = 1
            · subst e1
              cases ok with
              | false =>
                obtain rfl : T = false := by rw [HT.out]; exact decide_eq_false (fun h => by cases h.2.1)
                refine wp_region_u [51, 52, 53, 54, 55, 56, 57, 58, 59, 60, 61, 62, 63, 64, 65, 66, 67, 68, 69, 70, 71, 72] [] (fun n => match n with | 0 => .int .i64 1 | 1 => .bool true | 2 => .bool true | 3 => .bool false | 4 => .bool false | 5 => .bool false | 6 => undef | 7 => undef | 8 => undef | 9 => undef | 10 => undef | 11 => undef | 12 => undef | 13 => undef | 14 => undef | 15 => undef | 16 => undef | 17 => undef | 18 => undef | 19 => undef | 20 => undef | 21 => .bool false | _ => undef) (fun f v w => Ext [] W6 w) (by kernel_rfl) (by kernel_rfl) ?hst0_14b ?h00_14b ?hst_14b ?hend_14b
                case hst0_14b =>
                  exact fun f v w w' h hx => h.then0 hx
                case h00_14b =>
                  exact Ext.refl _ _
                case hst_14b =>
                  refine ⟨?f0_14b, ?f1_14b, ?f2_14b, ?f3_14b, ?f4_14b, ?f5_14b, ?f6_14b, ?f7_14b, ?f8_14b, ?f9_14b, ?f10_14b, ?f11_14b, ?f12_14b, ?f13_14b, ?f14_14b, ?f15_14b, ?f16_14b, ?f17_14b, ?f18_14b, ?f19_14b, ?f20_14b, ?f21_14b, trivial⟩
                  case f0_14b =>
                    intro f v g w' hJ hfi hb hd
                    refine arm_u rfl ?_
                    refine op_run rfl ?_
                    generalize hA : mkAct _ _ g = A
                    have h10 : A.tmps[10]?.getD undef = .int .i64 1 := by rw [← hA]; exact mkAct_out2 _ _ _ _ _ rfl rfl
                    refine step_val (v := .int .i64 1) (w' := w') ?_ ⟨rfl, Ext.refl _ _⟩
                    simp [execOp, h10, Result.andThen, go_sem]
                  case f1_14b =>
                    intro f v g w' hJ hfi hb hd
                    refine arm_u rfl ?_
                    refine op_run rfl ?_
                    have e51 : g 51 = .int .i64 1 := value_u (hd ⟨0, .data⟩ (by simp) rfl) rfl rfl
                    generalize hA : mkAct _ _ g = A
                    have h51 : A.tmps[51]?.getD undef = .int .i64 1 := by rw [← hA, mkAct_in2 _ _ _ _ rfl rfl]; exact e51
                    refine step_val (v := .bool true) (w' := w') ?_ ⟨rfl, Ext.refl _ _⟩
                    simp [execOp, h51, Result.andThen, go_sem]
                  case f2_14b =>
                    intro f v g w' hJ hfi hb hd
                    refine arm_u rfl ?_
                    refine op_run rfl ?_
                    have e52 : g 52 = .bool true := value_u (hd ⟨1, .data⟩ (by simp) rfl) rfl rfl
                    generalize hA : mkAct _ _ g = A
                    have h52 : A.tmps[52]?.getD undef = .bool true := by rw [← hA, mkAct_in2 _ _ _ _ rfl rfl]; exact e52
                    refine step_val (v := .bool true) (w' := w') ?_ ⟨rfl, Ext.refl _ _⟩
                    simp [execOp, h52, Result.andThen, go_sem]
                  case f3_14b =>
                    intro f v g w' hJ hfi hb hd
                    refine arm_u rfl ?_
                    have eg : g 53 = .bool true := value_u (hd ⟨2, .guard⟩ (by simp) rfl) rfl rfl
                    refine op_yes rfl rfl rfl rfl eg ?_
                    generalize hA : mkAct _ _ g = A
                    have h13 : A.tmps[13]?.getD undef = .bool false := by rw [← hA]; exact mkAct_out2 _ _ _ _ _ rfl rfl
                    refine step_val (v := .bool false) (w' := w') ?_ ⟨rfl, Ext.refl _ _⟩
                    simp [execOp, h13, Result.andThen, go_sem]
                  case f4_14b =>
                    intro f v g w' hJ hfi hb hd
                    refine arm_u rfl ?_
                    refine op_run rfl ?_
                    have e53 : g 53 = .bool true := value_u (hd ⟨2, .data⟩ (by simp) rfl) rfl rfl
                    have e54 : g 54 = .bool false := value_u (hd ⟨3, .data⟩ (by simp) rfl) rfl rfl
                    generalize hA : mkAct _ _ g = A
                    have h53 : A.tmps[53]?.getD undef = .bool true := by rw [← hA, mkAct_in2 _ _ _ _ rfl rfl]; exact e53
                    have h54 : A.tmps[54]?.getD undef = .bool false := by rw [← hA, mkAct_in2 _ _ _ _ rfl rfl]; exact e54
                    refine step_val (v := .bool false) (w' := w') ?_ ⟨rfl, Ext.refl _ _⟩
                    simp [execOp, h53, h54, Result.andThen, go_sem]
                  case f5_14b =>
                    intro f v g w' hJ hfi hb hd
                    refine arm_u rfl ?_
                    refine op_run rfl ?_
                    have e55 : g 55 = .bool false := value_u (hd ⟨4, .data⟩ (by simp) rfl) rfl rfl
                    generalize hA : mkAct _ _ g = A
                    have h55 : A.tmps[55]?.getD undef = .bool false := by rw [← hA, mkAct_in2 _ _ _ _ rfl rfl]; exact e55
                    refine step_val (v := .bool false) (w' := w') ?_ ⟨rfl, Ext.refl _ _⟩
                    simp [execOp, h55, Result.andThen, go_sem]
                  case f6_14b =>
                    intro f v g w' hJ hfi hb hd
                    refine arm_u rfl ?_
                    have eg : g 56 = .bool false := value_u (hd ⟨5, .guard⟩ (by simp) rfl) rfl rfl
                    exact op_no rfl rfl rfl rfl false eg (by decide) ⟨rfl, Ext.refl _ _⟩
                  case f7_14b =>
                    intro f v g w' hJ hfi hb hd
                    refine arm_u rfl ?_
                    have eg : g 56 = .bool false := value_u (hd ⟨5, .guard⟩ (by simp) rfl) rfl rfl
                    exact op_no rfl rfl rfl rfl false eg (by decide) ⟨rfl, Ext.refl _ _⟩
                  case f8_14b =>
                    intro f v g w' hJ hfi hb hd
                    refine arm_u rfl ?_
                    have eg : g 56 = .bool false := value_u (hd ⟨5, .guard⟩ (by simp) rfl) rfl rfl
                    exact op_no rfl rfl rfl rfl false eg (by decide) ⟨rfl, Ext.refl _ _⟩
                  case f9_14b =>
                    intro f v g w' hJ hfi hb hd
                    refine arm_u rfl ?_
                    have eg : g 56 = .bool false := value_u (hd ⟨5, .guard⟩ (by simp) rfl) rfl rfl
                    exact op_no rfl rfl rfl rfl false eg (by decide) ⟨rfl, Ext.refl _ _⟩
                  case f10_14b =>
                    intro f v g w' hJ hfi hb hd
                    refine arm_u rfl ?_
                    have eg : g 56 = .bool false := value_u (hd ⟨5, .guard⟩ (by simp) rfl) rfl rfl
                    exact op_no rfl rfl rfl rfl false eg (by decide) ⟨rfl, Ext.refl _ _⟩
                  case f11_14b =>
                    intro f v g w' hJ hfi hb hd
                    refine arm_u rfl ?_
                    have eg : g 56 = .bool false := value_u (hd ⟨5, .guard⟩ (by simp) rfl) rfl rfl
                    exact op_no rfl rfl rfl rfl false eg (by decide) ⟨rfl, Ext.refl _ _⟩
                  case f12_14b =>
                    intro f v g w' hJ hfi hb hd
                    refine arm_u rfl ?_
                    have eg : g 62 = undef := value_u (hd ⟨11, .guard⟩ (by simp) rfl) rfl rfl
                    exact op_undef rfl rfl rfl rfl eg ⟨rfl, Ext.refl _ _⟩
                  case f13_14b =>
                    intro f v g w' hJ hfi hb hd
                    refine arm_u rfl ?_
                    have eg : g 62 = undef := value_u (hd ⟨11, .guard⟩ (by simp) rfl) rfl rfl
                    exact op_undef rfl rfl rfl rfl eg ⟨rfl, Ext.refl _ _⟩
                  case f14_14b =>
                    intro f v g w' hJ hfi hb hd
                    refine arm_u rfl ?_
                    have eg : g 62 = undef := value_u (hd ⟨11, .guard⟩ (by simp) rfl) rfl rfl
                    exact op_undef rfl rfl rfl rfl eg ⟨rfl, Ext.refl _ _⟩
                  case f15_14b =>
                    intro f v g w' hJ hfi hb hd
                    refine arm_u rfl ?_
                    have eg : g 62 = undef := value_u (hd ⟨11, .guard⟩ (by simp) rfl) rfl rfl
                    exact op_undef rfl rfl rfl rfl eg ⟨rfl, Ext.refl _ _⟩
                  case f16_14b =>
                    intro f v g w' hJ hfi hb hd
                    refine arm_u rfl ?_
                    have eg : g 62 = undef := value_u (hd ⟨11, .guard⟩ (by simp) rfl) rfl rfl
                    exact op_undef rfl rfl rfl rfl eg ⟨rfl, Ext.refl _ _⟩
                  case f17_14b =>
                    intro f v g w' hJ hfi hb hd
                    refine arm_u rfl ?_
                    have eg : g 62 = undef := value_u (hd ⟨11, .guard⟩ (by simp) rfl) rfl rfl
                    exact op_undef rfl rfl rfl rfl eg ⟨rfl, Ext.refl _ _⟩
                  case f18_14b =>
                    intro f v g w' hJ hfi hb hd
                    refine arm_u rfl ?_
                    have eg : g 62 = undef := value_u (hd ⟨11, .guard⟩ (by simp) rfl) rfl rfl
                    exact op_undef rfl rfl rfl rfl eg ⟨rfl, Ext.refl _ _⟩
                  case f19_14b =>
                    intro f v g w' hJ hfi hb hd
                    refine arm_u rfl ?_
                    have eg : g 62 = undef := value_u (hd ⟨11, .guard⟩ (by simp) rfl) rfl rfl
                    exact op_undef rfl rfl rfl rfl eg ⟨rfl, Ext.refl _ _⟩
                  case f20_14b =>
                    intro f v g w' hJ hfi hb hd
                    refine arm_u rfl ?_
                    have eg : g 56 = .bool false := value_u (hd ⟨5, .guard⟩ (by simp) rfl) rfl rfl
                    exact op_no rfl rfl rfl rfl false eg (by decide) ⟨rfl, Ext.refl _ _⟩
                  case f21_14b =>
                    intro f v g w' hJ hfi hb hd
                    refine arm_u rfl ?_
                    refine op_run rfl ?_
                    have e56 : g 56 = .bool false := value_u (hd ⟨5, .data⟩ (by simp) rfl) rfl rfl
                    have e71 : g 71 = undef := value_u (hd ⟨20, .data⟩ (by simp) rfl) rfl rfl
                    generalize hA : mkAct _ _ g = A
                    have h56 : A.tmps[56]?.getD undef = .bool false := by rw [← hA, mkAct_in2 _ _ _ _ rfl rfl]; exact e56
                    have h71 : A.tmps[71]?.getD undef = undef := by rw [← hA, mkAct_in2 _ _ _ _ rfl rfl]; exact e71
                    refine step_val (v := .bool false) (w' := w') ?_ ⟨rfl, Ext.refl _ _⟩
                    simp [execOp, h56, h71, Result.andThen, go_sem]
                intro f v g wn hJ hk
                have e72 : g 72 = .bool false := value_u (hk 21 (by decide)) rfl rfl
                clear hk cq cm
                unfold mkAct; simp only [List.zipIdx_cons, List.zipIdx_nil, List.map_cons, List.map_nil, Nat.zero_add, Nat.reduceAdd, List.contains_cons, List.contains_nil, Nat.reduceBEq, Bool.or_false, Bool.or_true, ↓reduceIte, Bool.false_eq_true]
                rw [e72]
                go_wp2_with fail
                go_meet
                exact ⟨rfl, hJ⟩
              | true =>
                by_cases e3 : ar < 0
                · obtain rfl : T = true := by rw [HT.out]; exact decide_eq_true ⟨rfl, rfl, .inl e3⟩
                  have e3b : decide (ar < 0) = true := decide_eq_true e3
                  refine wp_region_u [51, 52, 53, 54, 55, 56, 57, 58, 59, 60, 61, 62, 63, 64, 65, 66, 67, 68, 69, 70, 71, 72] [] (fun n => match n with | 0 => .int .i64 1 | 1 => .bool true | 2 => .bool true | 3 => .bool true | 4 => .bool true | 5 => .bool true | 6 => .pointer (some ⟨q, 0, none⟩) | 7 => .pointer (some ⟨q, 0, none⟩) | 8 => .pointer (some ⟨q, 2, none⟩) | 9 => .int .i64 ar | 10 => .bool true | 11 => .bool true | 12 => undef | 13 => undef | 14 => undef | 15 => undef | 16 => undef | 17 => undef | 18 => undef | 19 => undef | 20 => .bool true | 21 => .bool true | _ => undef) (fun f v w => Ext [] W6 w) (by kernel_rfl) (by kernel_rfl) ?hst0_14c ?h00_14c ?hst_14c ?hend_14c
                  case hst0_14c =>
                    exact fun f v w w' h hx => h.then0 hx
                  case h00_14c =>
                    exact Ext.refl _ _
                  case hst_14c =>
                    refine ⟨?f0_14c, ?f1_14c, ?f2_14c, ?f3_14c, ?f4_14c, ?f5_14c, ?f6_14c, ?f7_14c, ?f8_14c, ?f9_14c, ?f10_14c, ?f11_14c, ?f12_14c, ?f13_14c, ?f14_14c, ?f15_14c, ?f16_14c, ?f17_14c, ?f18_14c, ?f19_14c, ?f20_14c, ?f21_14c, trivial⟩
                    case f0_14c =>
                      intro f v g w' hJ hfi hb hd
                      refine arm_u rfl ?_
                      refine op_run rfl ?_
                      generalize hA : mkAct _ _ g = A
                      have h10 : A.tmps[10]?.getD undef = .int .i64 1 := by rw [← hA]; exact mkAct_out2 _ _ _ _ _ rfl rfl
                      refine step_val (v := .int .i64 1) (w' := w') ?_ ⟨rfl, Ext.refl _ _⟩
                      simp [execOp, h10, Result.andThen, go_sem]
                    case f1_14c =>
                      intro f v g w' hJ hfi hb hd
                      refine arm_u rfl ?_
                      refine op_run rfl ?_
                      have e51 : g 51 = .int .i64 1 := value_u (hd ⟨0, .data⟩ (by simp) rfl) rfl rfl
                      generalize hA : mkAct _ _ g = A
                      have h51 : A.tmps[51]?.getD undef = .int .i64 1 := by rw [← hA, mkAct_in2 _ _ _ _ rfl rfl]; exact e51
                      refine step_val (v := .bool true) (w' := w') ?_ ⟨rfl, Ext.refl _ _⟩
                      simp [execOp, h51, Result.andThen, go_sem]
                    case f2_14c =>
                      intro f v g w' hJ hfi hb hd
                      refine arm_u rfl ?_
                      refine op_run rfl ?_
                      have e52 : g 52 = .bool true := value_u (hd ⟨1, .data⟩ (by simp) rfl) rfl rfl
                      generalize hA : mkAct _ _ g = A
                      have h52 : A.tmps[52]?.getD undef = .bool true := by rw [← hA, mkAct_in2 _ _ _ _ rfl rfl]; exact e52
                      refine step_val (v := .bool true) (w' := w') ?_ ⟨rfl, Ext.refl _ _⟩
                      simp [execOp, h52, Result.andThen, go_sem]
                    case f3_14c =>
                      intro f v g w' hJ hfi hb hd
                      refine arm_u rfl ?_
                      have eg : g 53 = .bool true := value_u (hd ⟨2, .guard⟩ (by simp) rfl) rfl rfl
                      refine op_yes rfl rfl rfl rfl eg ?_
                      generalize hA : mkAct _ _ g = A
                      have h13 : A.tmps[13]?.getD undef = .bool true := by rw [← hA]; exact mkAct_out2 _ _ _ _ _ rfl rfl
                      refine step_val (v := .bool true) (w' := w') ?_ ⟨rfl, Ext.refl _ _⟩
                      simp [execOp, h13, Result.andThen, go_sem]
                    case f4_14c =>
                      intro f v g w' hJ hfi hb hd
                      refine arm_u rfl ?_
                      refine op_run rfl ?_
                      have e53 : g 53 = .bool true := value_u (hd ⟨2, .data⟩ (by simp) rfl) rfl rfl
                      have e54 : g 54 = .bool true := value_u (hd ⟨3, .data⟩ (by simp) rfl) rfl rfl
                      generalize hA : mkAct _ _ g = A
                      have h53 : A.tmps[53]?.getD undef = .bool true := by rw [← hA, mkAct_in2 _ _ _ _ rfl rfl]; exact e53
                      have h54 : A.tmps[54]?.getD undef = .bool true := by rw [← hA, mkAct_in2 _ _ _ _ rfl rfl]; exact e54
                      refine step_val (v := .bool true) (w' := w') ?_ ⟨rfl, Ext.refl _ _⟩
                      simp [execOp, h53, h54, Result.andThen, go_sem]
                    case f5_14c =>
                      intro f v g w' hJ hfi hb hd
                      refine arm_u rfl ?_
                      refine op_run rfl ?_
                      have e55 : g 55 = .bool true := value_u (hd ⟨4, .data⟩ (by simp) rfl) rfl rfl
                      generalize hA : mkAct _ _ g = A
                      have h55 : A.tmps[55]?.getD undef = .bool true := by rw [← hA, mkAct_in2 _ _ _ _ rfl rfl]; exact e55
                      refine step_val (v := .bool true) (w' := w') ?_ ⟨rfl, Ext.refl _ _⟩
                      simp [execOp, h55, Result.andThen, go_sem]
                    case f6_14c =>
                      intro f v g w' hJ hfi hb hd
                      refine arm_u rfl ?_
                      have eg : g 56 = .bool true := value_u (hd ⟨5, .guard⟩ (by simp) rfl) rfl rfl
                      refine op_yes rfl rfl rfl rfl eg ?_
                      generalize hA : mkAct _ _ g = A
                      have h6 : A.tmps[6]?.getD undef = .pointer (some ⟨q, 0, none⟩) := by rw [← hA]; exact mkAct_out2 _ _ _ _ _ rfl rfl
                      refine step_val (v := .pointer (some ⟨q, 0, none⟩)) (w' := w') ?_ ⟨rfl, Ext.refl _ _⟩
                      simp [execOp, h6, Result.andThen, go_sem]
                    case f7_14c =>
                      intro f v g w' hJ hfi hb hd
                      refine arm_u rfl ?_
                      have eg : g 56 = .bool true := value_u (hd ⟨5, .guard⟩ (by simp) rfl) rfl rfl
                      refine op_yes rfl rfl rfl rfl eg ?_
                      have e57 : g 57 = .pointer (some ⟨q, 0, none⟩) := value_u (hd ⟨6, .data⟩ (by simp) rfl) rfl rfl
                      generalize hA : mkAct _ _ g = A
                      have h57 : A.tmps[57]?.getD undef = .pointer (some ⟨q, 0, none⟩) := by rw [← hA, mkAct_in2 _ _ _ _ rfl rfl]; exact e57
                      refine step_val (v := .pointer (some ⟨q, 0, none⟩)) (w' := w') ?_ ⟨rfl, Ext.refl _ _⟩
                      simp [execOp, h57, Result.andThen, go_sem]
                    case f8_14c =>
                      intro f v g w' hJ hfi hb hd
                      refine arm_u rfl ?_
                      have eg : g 56 = .bool true := value_u (hd ⟨5, .guard⟩ (by simp) rfl) rfl rfl
                      refine op_yes rfl rfl rfl rfl eg ?_
                      have e58 : g 58 = .pointer (some ⟨q, 0, none⟩) := value_u (hd ⟨7, .data⟩ (by simp) rfl) rfl rfl
                      generalize hA : mkAct _ _ g = A
                      have h58 : A.tmps[58]?.getD undef = .pointer (some ⟨q, 0, none⟩) := by rw [← hA, mkAct_in2 _ _ _ _ rfl rfl]; exact e58
                      refine step_val (v := .pointer (some ⟨q, 2, none⟩)) (w' := w') ?_ ⟨rfl, Ext.refl _ _⟩
                      simp [execOp, h58, Result.andThen, go_sem]
                    case f9_14c =>
                      intro f v g w' hJ hfi hb hd
                      refine arm_u rfl ?_
                      have eg : g 56 = .bool true := value_u (hd ⟨5, .guard⟩ (by simp) rfl) rfl rfl
                      refine op_yes rfl rfl rfl rfl eg ?_
                      have e59 : g 59 = .pointer (some ⟨q, 2, none⟩) := value_u (hd ⟨8, .data⟩ (by simp) rfl) rfl rfl
                      generalize hA : mkAct _ _ g = A
                      have h59 : A.tmps[59]?.getD undef = .pointer (some ⟨q, 2, none⟩) := by rw [← hA, mkAct_in2 _ _ _ _ rfl rfl]; exact e59
                      have c := (cq w' hJ).2.2.1
                      refine step_val (v := .int .i64 ar) (w' := w') ?_ ⟨rfl, Ext.refl _ _⟩
                      simp [execOp, h59, c, Result.andThen, go_sem]
                    case f10_14c =>
                      intro f v g w' hJ hfi hb hd
                      refine arm_u rfl ?_
                      have eg : g 56 = .bool true := value_u (hd ⟨5, .guard⟩ (by simp) rfl) rfl rfl
                      refine op_yes rfl rfl rfl rfl eg ?_
                      have e60 : g 60 = .int .i64 ar := value_u (hd ⟨9, .data⟩ (by simp) rfl) rfl rfl
                      generalize hA : mkAct _ _ g = A
                      have h60 : A.tmps[60]?.getD undef = .int .i64 ar := by rw [← hA, mkAct_in2 _ _ _ _ rfl rfl]; exact e60
                      refine step_val (v := .bool true) (w' := w') ?_ ⟨rfl, Ext.refl _ _⟩
                      simp [execOp, e3b, h60, Result.andThen, go_sem]
                    case f11_14c =>
                      intro f v g w' hJ hfi hb hd
                      refine arm_u rfl ?_
                      have eg : g 56 = .bool true := value_u (hd ⟨5, .guard⟩ (by simp) rfl) rfl rfl
                      refine op_yes rfl rfl rfl rfl eg ?_
                      have e61 : g 61 = .bool true := value_u (hd ⟨10, .data⟩ (by simp) rfl) rfl rfl
                      generalize hA : mkAct _ _ g = A
                      have h61 : A.tmps[61]?.getD undef = .bool true := by rw [← hA, mkAct_in2 _ _ _ _ rfl rfl]; exact e61
                      refine step_val (v := .bool true) (w' := w') ?_ ⟨rfl, Ext.refl _ _⟩
                      simp [execOp, h61, Result.andThen, go_sem]
                    case f12_14c =>
                      intro f v g w' hJ hfi hb hd
                      refine arm_u rfl ?_
                      have eg : g 62 = .bool true := value_u (hd ⟨11, .guard⟩ (by simp) rfl) rfl rfl
                      exact op_no rfl rfl rfl rfl true eg (by decide) ⟨rfl, Ext.refl _ _⟩
                    case f13_14c =>
                      intro f v g w' hJ hfi hb hd
                      refine arm_u rfl ?_
                      have eg : g 62 = .bool true := value_u (hd ⟨11, .guard⟩ (by simp) rfl) rfl rfl
                      exact op_no rfl rfl rfl rfl true eg (by decide) ⟨rfl, Ext.refl _ _⟩
                    case f14_14c =>
                      intro f v g w' hJ hfi hb hd
                      refine arm_u rfl ?_
                      have eg : g 62 = .bool true := value_u (hd ⟨11, .guard⟩ (by simp) rfl) rfl rfl
                      exact op_no rfl rfl rfl rfl true eg (by decide) ⟨rfl, Ext.refl _ _⟩
                    case f15_14c =>
                      intro f v g w' hJ hfi hb hd
                      refine arm_u rfl ?_
                      have eg : g 62 = .bool true := value_u (hd ⟨11, .guard⟩ (by simp) rfl) rfl rfl
                      exact op_no rfl rfl rfl rfl true eg (by decide) ⟨rfl, Ext.refl _ _⟩
                    case f16_14c =>
                      intro f v g w' hJ hfi hb hd
                      refine arm_u rfl ?_
                      have eg : g 62 = .bool true := value_u (hd ⟨11, .guard⟩ (by simp) rfl) rfl rfl
                      exact op_no rfl rfl rfl rfl true eg (by decide) ⟨rfl, Ext.refl _ _⟩
                    case f17_14c =>
                      intro f v g w' hJ hfi hb hd
                      refine arm_u rfl ?_
                      have eg : g 62 = .bool true := value_u (hd ⟨11, .guard⟩ (by simp) rfl) rfl rfl
                      exact op_no rfl rfl rfl rfl true eg (by decide) ⟨rfl, Ext.refl _ _⟩
                    case f18_14c =>
                      intro f v g w' hJ hfi hb hd
                      refine arm_u rfl ?_
                      have eg : g 62 = .bool true := value_u (hd ⟨11, .guard⟩ (by simp) rfl) rfl rfl
                      exact op_no rfl rfl rfl rfl true eg (by decide) ⟨rfl, Ext.refl _ _⟩
                    case f19_14c =>
                      intro f v g w' hJ hfi hb hd
                      refine arm_u rfl ?_
                      have eg : g 62 = .bool true := value_u (hd ⟨11, .guard⟩ (by simp) rfl) rfl rfl
                      exact op_no rfl rfl rfl rfl true eg (by decide) ⟨rfl, Ext.refl _ _⟩
                    case f20_14c =>
                      intro f v g w' hJ hfi hb hd
                      refine arm_u rfl ?_
                      have eg : g 56 = .bool true := value_u (hd ⟨5, .guard⟩ (by simp) rfl) rfl rfl
                      refine op_yes rfl rfl rfl rfl eg ?_
                      have e62 : g 62 = .bool true := value_u (hd ⟨11, .data⟩ (by simp) rfl) rfl rfl
                      have e70 : g 70 = undef := value_u (hd ⟨19, .data⟩ (by simp) rfl) rfl rfl
                      generalize hA : mkAct _ _ g = A
                      have h62 : A.tmps[62]?.getD undef = .bool true := by rw [← hA, mkAct_in2 _ _ _ _ rfl rfl]; exact e62
                      have h70 : A.tmps[70]?.getD undef = undef := by rw [← hA, mkAct_in2 _ _ _ _ rfl rfl]; exact e70
                      refine step_val (v := .bool true) (w' := w') ?_ ⟨rfl, Ext.refl _ _⟩
                      simp [execOp, h62, h70, Result.andThen, go_sem]
                    case f21_14c =>
                      intro f v g w' hJ hfi hb hd
                      refine arm_u rfl ?_
                      refine op_run rfl ?_
                      have e56 : g 56 = .bool true := value_u (hd ⟨5, .data⟩ (by simp) rfl) rfl rfl
                      have e71 : g 71 = .bool true := value_u (hd ⟨20, .data⟩ (by simp) rfl) rfl rfl
                      generalize hA : mkAct _ _ g = A
                      have h56 : A.tmps[56]?.getD undef = .bool true := by rw [← hA, mkAct_in2 _ _ _ _ rfl rfl]; exact e56
                      have h71 : A.tmps[71]?.getD undef = .bool true := by rw [← hA, mkAct_in2 _ _ _ _ rfl rfl]; exact e71
                      refine step_val (v := .bool true) (w' := w') ?_ ⟨rfl, Ext.refl _ _⟩
                      simp [execOp, h56, h71, Result.andThen, go_sem]
                  intro f v g wn hJ hk
                  have e72 : g 72 = .bool true := value_u (hk 21 (by decide)) rfl rfl
                  clear hk cq cm
                  unfold mkAct; simp only [List.zipIdx_cons, List.zipIdx_nil, List.map_cons, List.map_nil, Nat.zero_add, Nat.reduceAdd, List.contains_cons, List.contains_nil, Nat.reduceBEq, Bool.or_false, Bool.or_true, ↓reduceIte, Bool.false_eq_true]
                  rw [e72]
                  go_wp2_with fail
                  go_meet
                  exact ⟨rfl, hJ⟩
                · have e3b : decide (ar < 0) = false := decide_eq_false e3
                  by_cases e4 : l0.idx < l.idx
                  · obtain rfl : T = true := by rw [HT.out]; exact decide_eq_true ⟨rfl, rfl, .inr e4⟩
                    have e4b : decide (l0.idx < l.idx) = true := decide_eq_true e4
                    refine wp_region_u [51, 52, 53, 54, 55, 56, 57, 58, 59, 60, 61, 62, 63, 64, 65, 66, 67, 68, 69, 70, 71, 72] [] (fun n => match n with | 0 => .int .i64 1 | 1 => .bool true | 2 => .bool true | 3 => .bool true | 4 => .bool true | 5 => .bool true | 6 => .pointer (some ⟨q, 0, none⟩) | 7 => .pointer (some ⟨q, 0, none⟩) | 8 => .pointer (some ⟨q, 2, none⟩) | 9 => .int .i64 ar | 10 => .bool false | 11 => .bool false | 12 => .pointer (some ⟨M, 0, none⟩) | 13 => .int .i64 l.idx | 14 => .pointer (some ⟨q, 0, none⟩) | 15 => .pointer (some ⟨q, 0, none⟩) | 16 => .pointer (some ⟨q, 3, none⟩) | 17 => .pointer (some ⟨q, 3, none⟩) | 18 => .int .i64 l0.idx | 19 => .bool true | 20 => .bool true | 21 => .bool true | _ => undef) (fun f v w => Ext [] W6 w) (by kernel_rfl) (by kernel_rfl) ?hst0_14d ?h00_14d ?hst_14d ?hend_14d
                    case hst0_14d =>
                      exact fun f v w w' h hx => h.then0 hx
                    case h00_14d =>
                      exact Ext.refl _ _
                    case hst_14d =>
                      refine ⟨?f0_14d, ?f1_14d, ?f2_14d, ?f3_14d, ?f4_14d, ?f5_14d, ?f6_14d, ?f7_14d, ?f8_14d, ?f9_14d, ?f10_14d, ?f11_14d, ?f12_14d, ?f13_14d, ?f14_14d, ?f15_14d, ?f16_14d, ?f17_14d, ?f18_14d, ?f19_14d, ?f20_14d, ?f21_14d, trivial⟩
                      case f0_14d =>
                        intro f v g w' hJ hfi hb hd
                        refine arm_u rfl ?_
                        refine op_run rfl ?_
                        generalize hA : mkAct _ _ g = A
                        have h10 : A.tmps[10]?.getD undef = .int .i64 1 := by rw [← hA]; exact mkAct_out2 _ _ _ _ _ rfl rfl
                        refine step_val (v := .int .i64 1) (w' := w') ?_ ⟨rfl, Ext.refl _ _⟩
                        simp [execOp, h10, Result.andThen, go_sem]
                      case f1_14d =>
                        intro f v g w' hJ hfi hb hd
                        refine arm_u rfl ?_
                        refine op_run rfl ?_
                        have e51 : g 51 = .int .i64 1 := value_u (hd ⟨0, .data⟩ (by simp) rfl) rfl rfl
                        generalize hA : mkAct _ _ g = A
                        have h51 : A.tmps[51]?.getD undef = .int .i64 1 := by rw [← hA, mkAct_in2 _ _ _ _ rfl rfl]; exact e51
                        refine step_val (v := .bool true) (w' := w') ?_ ⟨rfl, Ext.refl _ _⟩
                        simp [execOp, h51, Result.andThen, go_sem]
                      case f2_14d =>
                        intro f v g w' hJ hfi hb hd
                        refine arm_u rfl ?_
                        refine op_run rfl ?_
                        have e52 : g 52 = .bool true := value_u (hd ⟨1, .data⟩ (by simp) rfl) rfl rfl
                        generalize hA : mkAct _ _ g = A
                        have h52 : A.tmps[52]?.getD undef = .bool true := by rw [← hA, mkAct_in2 _ _ _ _ rfl rfl]; exact e52
                        refine step_val (v := .bool true) (w' := w') ?_ ⟨rfl, Ext.refl _ _⟩
                        simp [execOp, h52, Result.andThen, go_sem]
                      case f3_14d =>
                        intro f v g w' hJ hfi hb hd
                        refine arm_u rfl ?_
                        have eg : g 53 = .bool true := value_u (hd ⟨2, .guard⟩ (by simp) rfl) rfl rfl
                        refine op_yes rfl rfl rfl rfl eg ?_
                        generalize hA : mkAct _ _ g = A
                        have h13 : A.tmps[13]?.getD undef = .bool true := by rw [← hA]; exact mkAct_out2 _ _ _ _ _ rfl rfl
                        refine step_val (v := .bool true) (w' := w') ?_ ⟨rfl, Ext.refl _ _⟩
                        simp [execOp, h13, Result.andThen, go_sem]
                      case f4_14d =>
                        intro f v g w' hJ hfi hb hd
                        refine arm_u rfl ?_
                        refine op_run rfl ?_
                        have e53 : g 53 = .bool true := value_u (hd ⟨2, .data⟩ (by simp) rfl) rfl rfl
                        have e54 : g 54 = .bool true := value_u (hd ⟨3, .data⟩ (by simp) rfl) rfl rfl
                        generalize hA : mkAct _ _ g = A
                        have h53 : A.tmps[53]?.getD undef = .bool true := by rw [← hA, mkAct_in2 _ _ _ _ rfl rfl]; exact e53
                        have h54 : A.tmps[54]?.getD undef = .bool true := by rw [← hA, mkAct_in2 _ _ _ _ rfl rfl]; exact e54
                        refine step_val (v := .bool true) (w' := w') ?_ ⟨rfl, Ext.refl _ _⟩
                        simp [execOp, h53, h54, Result.andThen, go_sem]
                      case f5_14d =>
                        intro f v g w' hJ hfi hb hd
                        refine arm_u rfl ?_
                        refine op_run rfl ?_
                        have e55 : g 55 = .bool true := value_u (hd ⟨4, .data⟩ (by simp) rfl) rfl rfl
                        generalize hA : mkAct _ _ g = A
                        have h55 : A.tmps[55]?.getD undef = .bool true := by rw [← hA, mkAct_in2 _ _ _ _ rfl rfl]; exact e55
                        refine step_val (v := .bool true) (w' := w') ?_ ⟨rfl, Ext.refl _ _⟩
                        simp [execOp, h55, Result.andThen, go_sem]
                      case f6_14d =>
                        intro f v g w' hJ hfi hb hd
                        refine arm_u rfl ?_
                        have eg : g 56 = .bool true := value_u (hd ⟨5, .guard⟩ (by simp) rfl) rfl rfl
                        refine op_yes rfl rfl rfl rfl eg ?_
                        generalize hA : mkAct _ _ g = A
                        have h6 : A.tmps[6]?.getD undef = .pointer (some ⟨q, 0, none⟩) := by rw [← hA]; exact mkAct_out2 _ _ _ _ _ rfl rfl
                        refine step_val (v := .pointer (some ⟨q, 0, none⟩)) (w' := w') ?_ ⟨rfl, Ext.refl _ _⟩
                        simp [execOp, h6, Result.andThen, go_sem]
                      case f7_14d =>
                        intro f v g w' hJ hfi hb hd
                        refine arm_u rfl ?_
                        have eg : g 56 = .bool true := value_u (hd ⟨5, .guard⟩ (by simp) rfl) rfl rfl
                        refine op_yes rfl rfl rfl rfl eg ?_
                        have e57 : g 57 = .pointer (some ⟨q, 0, none⟩) := value_u (hd ⟨6, .data⟩ (by simp) rfl) rfl rfl
                        generalize hA : mkAct _ _ g = A
                        have h57 : A.tmps[57]?.getD undef = .pointer (some ⟨q, 0, none⟩) := by rw [← hA, mkAct_in2 _ _ _ _ rfl rfl]; exact e57
                        refine step_val (v := .pointer (some ⟨q, 0, none⟩)) (w' := w') ?_ ⟨rfl, Ext.refl _ _⟩
                        simp [execOp, h57, Result.andThen, go_sem]
                      case f8_14d =>
                        intro f v g w' hJ hfi hb hd
                        refine arm_u rfl ?_
                        have eg : g 56 = .bool true := value_u (hd ⟨5, .guard⟩ (by simp) rfl) rfl rfl
                        refine op_yes rfl rfl rfl rfl eg ?_
                        have e58 : g 58 = .pointer (some ⟨q, 0, none⟩) := value_u (hd ⟨7, .data⟩ (by simp) rfl) rfl rfl
                        generalize hA : mkAct _ _ g = A
                        have h58 : A.tmps[58]?.getD undef = .pointer (some ⟨q, 0, none⟩) := by rw [← hA, mkAct_in2 _ _ _ _ rfl rfl]; exact e58
                        refine step_val (v := .pointer (some ⟨q, 2, none⟩)) (w' := w') ?_ ⟨rfl, Ext.refl _ _⟩
                        simp [execOp, h58, Result.andThen, go_sem]
                      case f9_14d =>
                        intro f v g w' hJ hfi hb hd
                        refine arm_u rfl ?_
                        have eg : g 56 = .bool true := value_u (hd ⟨5, .guard⟩ (by simp) rfl) rfl rfl
                        refine op_yes rfl rfl rfl rfl eg ?_
                        have e59 : g 59 = .pointer (some ⟨q, 2, none⟩) := value_u (hd ⟨8, .data⟩ (by simp) rfl) rfl rfl
                        generalize hA : mkAct _ _ g = A
                        have h59 : A.tmps[59]?.getD undef = .pointer (some ⟨q, 2, none⟩) := by rw [← hA, mkAct_in2 _ _ _ _ rfl rfl]; exact e59
                        have c := (cq w' hJ).2.2.1
                        refine step_val (v := .int .i64 ar) (w' := w') ?_ ⟨rfl, Ext.refl _ _⟩
                        simp [execOp, h59, c, Result.andThen, go_sem]
                      case f10_14d =>
                        intro f v g w' hJ hfi hb hd
                        refine arm_u rfl ?_
                        have eg : g 56 = .bool true := value_u (hd ⟨5, .guard⟩ (by simp) rfl) rfl rfl
                        refine op_yes rfl rfl rfl rfl eg ?_
                        have e60 : g 60 = .int .i64 ar := value_u (hd ⟨9, .data⟩ (by simp) rfl) rfl rfl
                        generalize hA : mkAct _ _ g = A
                        have h60 : A.tmps[60]?.getD undef = .int .i64 ar := by rw [← hA, mkAct_in2 _ _ _ _ rfl rfl]; exact e60
                        refine step_val (v := .bool false) (w' := w') ?_ ⟨rfl, Ext.refl _ _⟩
                        simp [execOp, e3b, h60, Result.andThen, go_sem]
                      case f11_14d =>
                        intro f v g w' hJ hfi hb hd
                        refine arm_u rfl ?_
                        have eg : g 56 = .bool true := value_u (hd ⟨5, .guard⟩ (by simp) rfl) rfl rfl
                        refine op_yes rfl rfl rfl rfl eg ?_
                        have e61 : g 61 = .bool false := value_u (hd ⟨10, .data⟩ (by simp) rfl) rfl rfl
                        generalize hA : mkAct _ _ g = A
                        have h61 : A.tmps[61]?.getD undef = .bool false := by rw [← hA, mkAct_in2 _ _ _ _ rfl rfl]; exact e61
                        refine step_val (v := .bool false) (w' := w') ?_ ⟨rfl, Ext.refl _ _⟩
                        simp [execOp, h61, Result.andThen, go_sem]
                      case f12_14d =>
                        intro f v g w' hJ hfi hb hd
                        refine arm_u rfl ?_
                        have eg : g 62 = .bool false := value_u (hd ⟨11, .guard⟩ (by simp) rfl) rfl rfl
                        refine op_yes rfl rfl rfl rfl eg ?_
                        generalize hA : mkAct _ _ g = A
                        have h12 : A.tmps[12]?.getD undef = .pointer (some ⟨M, 0, none⟩) := by rw [← hA]; exact mkAct_out2 _ _ _ _ _ rfl rfl
                        refine step_val (v := .pointer (some ⟨M, 0, none⟩)) (w' := w') ?_ ⟨rfl, Ext.refl _ _⟩
                        simp [execOp, h12, Result.andThen, go_sem]
                      case f13_14d =>
                        intro f v g w' hJ hfi hb hd
                        refine arm_u rfl ?_
                        have eg : g 62 = .bool false := value_u (hd ⟨11, .guard⟩ (by simp) rfl) rfl rfl
                        refine op_yes rfl rfl rfl rfl eg ?_
                        have e63 : g 63 = .pointer (some ⟨M, 0, none⟩) := value_u (hd ⟨12, .data⟩ (by simp) rfl) rfl rfl
                        generalize hA : mkAct _ _ g = A
                        have h63 : A.tmps[63]?.getD undef = .pointer (some ⟨M, 0, none⟩) := by rw [← hA, mkAct_in2 _ _ _ _ rfl rfl]; exact e63
                        have c := (cm w' hJ).1
                        refine step_val (v := .int .i64 l.idx) (w' := w') ?_ ⟨rfl, Ext.refl _ _⟩
                        simp [execOp, h63, c, Result.andThen, go_sem]
                      case f14_14d =>
                        intro f v g w' hJ hfi hb hd
                        refine arm_u rfl ?_
                        have eg : g 62 = .bool false := value_u (hd ⟨11, .guard⟩ (by simp) rfl) rfl rfl
                        refine op_yes rfl rfl rfl rfl eg ?_
                        generalize hA : mkAct _ _ g = A
                        have h6 : A.tmps[6]?.getD undef = .pointer (some ⟨q, 0, none⟩) := by rw [← hA]; exact mkAct_out2 _ _ _ _ _ rfl rfl
                        refine step_val (v := .pointer (some ⟨q, 0, none⟩)) (w' := w') ?_ ⟨rfl, Ext.refl _ _⟩
                        simp [execOp, h6, Result.andThen, go_sem]
                      case f15_14d =>
                        intro f v g w' hJ hfi hb hd
                        refine arm_u rfl ?_
                        have eg : g 62 = .bool false := value_u (hd ⟨11, .guard⟩ (by simp) rfl) rfl rfl
                        refine op_yes rfl rfl rfl rfl eg ?_
                        have e65 : g 65 = .pointer (some ⟨q, 0, none⟩) := value_u (hd ⟨14, .data⟩ (by simp) rfl) rfl rfl
                        generalize hA : mkAct _ _ g = A
                        have h65 : A.tmps[65]?.getD undef = .pointer (some ⟨q, 0, none⟩) := by rw [← hA, mkAct_in2 _ _ _ _ rfl rfl]; exact e65
                        refine step_val (v := .pointer (some ⟨q, 0, none⟩)) (w' := w') ?_ ⟨rfl, Ext.refl _ _⟩
                        simp [execOp, h65, Result.andThen, go_sem]
                      case f16_14d =>
                        intro f v g w' hJ hfi hb hd
                        refine arm_u rfl ?_
                        have eg : g 62 = .bool false := value_u (hd ⟨11, .guard⟩ (by simp) rfl) rfl rfl
                        refine op_yes rfl rfl rfl rfl eg ?_
                        have e66 : g 66 = .pointer (some ⟨q, 0, none⟩) := value_u (hd ⟨15, .data⟩ (by simp) rfl) rfl rfl
                        generalize hA : mkAct _ _ g = A
                        have h66 : A.tmps[66]?.getD undef = .pointer (some ⟨q, 0, none⟩) := by rw [← hA, mkAct_in2 _ _ _ _ rfl rfl]; exact e66
                        refine step_val (v := .pointer (some ⟨q, 3, none⟩)) (w' := w') ?_ ⟨rfl, Ext.refl _ _⟩
                        simp [execOp, h66, Result.andThen, go_sem]
                      case f17_14d =>
                        intro f v g w' hJ hfi hb hd
                        refine arm_u rfl ?_
                        have eg : g 62 = .bool false := value_u (hd ⟨11, .guard⟩ (by simp) rfl) rfl rfl
                        refine op_yes rfl rfl rfl rfl eg ?_
                        have e67 : g 67 = .pointer (some ⟨q, 3, none⟩) := value_u (hd ⟨16, .data⟩ (by simp) rfl) rfl rfl
                        generalize hA : mkAct _ _ g = A
                        have h67 : A.tmps[67]?.getD undef = .pointer (some ⟨q, 3, none⟩) := by rw [← hA, mkAct_in2 _ _ _ _ rfl rfl]; exact e67
                        refine step_val (v := .pointer (some ⟨q, 3, none⟩)) (w' := w') ?_ ⟨rfl, Ext.refl _ _⟩
                        simp [execOp, h67, Result.andThen, go_sem]
                      case f18_14d =>
                        intro f v g w' hJ hfi hb hd
                        refine arm_u rfl ?_
                        have eg : g 62 = .bool false := value_u (hd ⟨11, .guard⟩ (by simp) rfl) rfl rfl
                        refine op_yes rfl rfl rfl rfl eg ?_
                        have e68 : g 68 = .pointer (some ⟨q, 3, none⟩) := value_u (hd ⟨17, .data⟩ (by simp) rfl) rfl rfl
                        generalize hA : mkAct _ _ g = A
                        have h68 : A.tmps[68]?.getD undef = .pointer (some ⟨q, 3, none⟩) := by rw [← hA, mkAct_in2 _ _ _ _ rfl rfl]; exact e68
                        have c := (cq w' hJ).2.2.2.1
                        refine step_val (v := .int .i64 l0.idx) (w' := w') ?_ ⟨rfl, Ext.refl _ _⟩
                        simp [execOp, h68, c, Result.andThen, go_sem]
                      case f19_14d =>
                        intro f v g w' hJ hfi hb hd
                        refine arm_u rfl ?_
                        have eg : g 62 = .bool false := value_u (hd ⟨11, .guard⟩ (by simp) rfl) rfl rfl
                        refine op_yes rfl rfl rfl rfl eg ?_
                        have e64 : g 64 = .int .i64 l.idx := value_u (hd ⟨13, .data⟩ (by simp) rfl) rfl rfl
                        have e69 : g 69 = .int .i64 l0.idx := value_u (hd ⟨18, .data⟩ (by simp) rfl) rfl rfl
                        generalize hA : mkAct _ _ g = A
                        have h64 : A.tmps[64]?.getD undef = .int .i64 l.idx := by rw [← hA, mkAct_in2 _ _ _ _ rfl rfl]; exact e64
                        have h69 : A.tmps[69]?.getD undef = .int .i64 l0.idx := by rw [← hA, mkAct_in2 _ _ _ _ rfl rfl]; exact e69
                        refine step_val (v := .bool true) (w' := w') ?_ ⟨rfl, Ext.refl _ _⟩
                        simp [execOp, e4b, h64, h69, Result.andThen, go_sem]
                      case f20_14d =>
                        intro f v g w' hJ hfi hb hd
                        refine arm_u rfl ?_
                        have eg : g 56 = .bool true := value_u (hd ⟨5, .guard⟩ (by simp) rfl) rfl rfl
                        refine op_yes rfl rfl rfl rfl eg ?_
                        have e62 : g 62 = .bool false := value_u (hd ⟨11, .data⟩ (by simp) rfl) rfl rfl
                        have e70 : g 70 = .bool true := value_u (hd ⟨19, .data⟩ (by simp) rfl) rfl rfl
                        generalize hA : mkAct _ _ g = A
                        have h62 : A.tmps[62]?.getD undef = .bool false := by rw [← hA, mkAct_in2 _ _ _ _ rfl rfl]; exact e62
                        have h70 : A.tmps[70]?.getD undef = .bool true := by rw [← hA, mkAct_in2 _ _ _ _ rfl rfl]; exact e70
                        refine step_val (v := .bool true) (w' := w') ?_ ⟨rfl, Ext.refl _ _⟩
                        simp [execOp, h62, h70, Result.andThen, go_sem]
                      case f21_14d =>
                        intro f v g w' hJ hfi hb hd
                        refine arm_u rfl ?_
                        refine op_run rfl ?_
                        have e56 : g 56 = .bool true := value_u (hd ⟨5, .data⟩ (by simp) rfl) rfl rfl
                        have e71 : g 71 = .bool true := value_u (hd ⟨20, .data⟩ (by simp) rfl) rfl rfl
                        generalize hA : mkAct _ _ g = A
                        have h56 : A.tmps[56]?.getD undef = .bool true := by rw [← hA, mkAct_in2 _ _ _ _ rfl rfl]; exact e56
                        have h71 : A.tmps[71]?.getD undef = .bool true := by rw [← hA, mkAct_in2 _ _ _ _ rfl rfl]; exact e71
                        refine step_val (v := .bool true) (w' := w') ?_ ⟨rfl, Ext.refl _ _⟩
                        simp [execOp, h56, h71, Result.andThen, go_sem]
                    intro f v g wn hJ hk
                    have e72 : g 72 = .bool true := value_u (hk 21 (by decide)) rfl rfl
                    clear hk cq cm
                    unfold mkAct; simp only [List.zipIdx_cons, List.zipIdx_nil, List.map_cons, List.map_nil, Nat.zero_add, Nat.reduceAdd, List.contains_cons, List.contains_nil, Nat.reduceBEq, Bool.or_false, Bool.or_true, ↓reduceIte, Bool.false_eq_true]
                    rw [e72]
                    go_wp2_with fail
                    go_meet
                    exact ⟨rfl, hJ⟩
                  · obtain rfl : T = false := by rw [HT.out]; exact decide_eq_false (fun h => h.2.2.elim e3 e4)
                    have e4b : decide (l0.idx < l.idx) = false := decide_eq_false e4
                    refine wp_region_u [51, 52, 53, 54, 55, 56, 57, 58, 59, 60, 61, 62, 63, 64, 65, 66, 67, 68, 69, 70, 71, 72] [] (fun n => match n with | 0 => .int .i64 1 | 1 => .bool true | 2 => .bool true | 3 => .bool true | 4 => .bool true | 5 => .bool true | 6 => .pointer (some ⟨q, 0, none⟩) | 7 => .pointer (some ⟨q, 0, none⟩) | 8 => .pointer (some ⟨q, 2, none⟩) | 9 => .int .i64 ar | 10 => .bool false | 11 => .bool false | 12 => .pointer (some ⟨M, 0, none⟩) | 13 => .int .i64 l.idx | 14 => .pointer (some ⟨q, 0, none⟩) | 15 => .pointer (some ⟨q, 0, none⟩) | 16 => .pointer (some ⟨q, 3, none⟩) | 17 => .pointer (some ⟨q, 3, none⟩) | 18 => .int .i64 l0.idx | 19 => .bool false | 20 => .bool false | 21 => .bool false | _ => undef) (fun f v w => Ext [] W6 w) (by kernel_rfl) (by kernel_rfl) ?hst0_14e ?h00_14e ?hst_14e ?hend_14e
                    case hst0_14e =>
                      exact fun f v w w' h hx => h.then0 hx
                    case h00_14e =>
                      exact Ext.refl _ _
                    case hst_14e =>
                      refine ⟨?f0_14e, ?f1_14e, ?f2_14e, ?f3_14e, ?f4_14e, ?f5_14e, ?f6_14e, ?f7_14e, ?f8_14e, ?f9_14e, ?f10_14e, ?f11_14e, ?f12_14e, ?f13_14e, ?f14_14e, ?f15_14e, ?f16_14e, ?f17_14e, ?f18_14e, ?f19_14e, ?f20_14e, ?f21_14e, trivial⟩
                      case f0_14e =>
                        intro f v g w' hJ hfi hb hd
                        refine arm_u rfl ?_
                        refine op_run rfl ?_
                        generalize hA : mkAct _ _ g = A
                        have h10 : A.tmps[10]?.getD undef = .int .i64 1 := by rw [← hA]; exact mkAct_out2 _ _ _ _ _ rfl rfl
                        refine step_val (v := .int .i64 1) (w' := w') ?_ ⟨rfl, Ext.refl _ _⟩
                        simp [execOp, h10, Result.andThen, go_sem]
                      case f1_14e =>
                        intro f v g w' hJ hfi hb hd
                        refine arm_u rfl ?_
                        refine op_run rfl ?_
                        have e51 : g 51 = .int .i64 1 := value_u (hd ⟨0, .data⟩ (by simp) rfl) rfl rfl
                        generalize hA : mkAct _ _ g = A
                        have h51 : A.tmps[51]?.getD undef = .int .i64 1 := by rw [← hA, mkAct_in2 _ _ _ _ rfl rfl]; exact e51
                        refine step_val (v := .bool true) (w' := w') ?_ ⟨rfl, Ext.refl _ _⟩
                        simp [execOp, h51, Result.andThen, go_sem]
                      case f2_14e =>
                        intro f v g w' hJ hfi hb hd
                        refine arm_u rfl ?_
                        refine op_run rfl ?_
                        have e52 : g 52 = .bool true := value_u (hd ⟨1, .data⟩ (by simp) rfl) rfl rfl
                        generalize hA : mkAct _ _ g = A
                        have h52 : A.tmps[52]?.getD undef = .bool true := by rw [← hA, mkAct_in2 _ _ _ _ rfl rfl]; exact e52
                        refine step_val (v := .bool true) (w' := w') ?_ ⟨rfl, Ext.refl _ _⟩
                        simp [execOp, h52, Result.andThen, go_sem]
                      case f3_14e =>
                        intro f v g w' hJ hfi hb hd
                        refine arm_u rfl ?_
                        have eg : g 53 = .bool true := value_u (hd ⟨2, .guard⟩ (by simp) rfl) rfl rfl
                        refine op_yes rfl rfl rfl rfl eg ?_
                        generalize hA : mkAct _ _ g = A
                        have h13 : A.tmps[13]?.getD undef = .bool true := by rw [← hA]; exact mkAct_out2 _ _ _ _ _ rfl rfl
                        refine step_val (v := .bool true) (w' := w') ?_ ⟨rfl, Ext.refl _ _⟩
                        simp [execOp, h13, Result.andThen, go_sem]
                      case f4_14e =>
                        intro f v g w' hJ hfi hb hd
                        refine arm_u rfl ?_
                        refine op_run rfl ?_
                        have e53 : g 53 = .bool true := value_u (hd ⟨2, .data⟩ (by simp) rfl) rfl rfl
                        have e54 : g 54 = .bool true := value_u (hd ⟨3, .data⟩ (by simp) rfl) rfl rfl
                        generalize hA : mkAct _ _ g = A
                        have h53 : A.tmps[53]?.getD undef = .bool true := by rw [← hA, mkAct_in2 _ _ _ _ rfl rfl]; exact e53
                        have h54 : A.tmps[54]?.getD undef = .bool true := by rw [← hA, mkAct_in2 _ _ _ _ rfl rfl]; exact e54
                        refine step_val (v := .bool true) (w' := w') ?_ ⟨rfl, Ext.refl _ _⟩
                        simp [execOp, h53, h54, Result.andThen, go_sem]
                      case f5_14e =>
                        intro f v g w' hJ hfi hb hd
                        refine arm_u rfl ?_
                        refine op_run rfl ?_
                        have e55 : g 55 = .bool true := value_u (hd ⟨4, .data⟩ (by simp) rfl) rfl rfl
                        generalize hA : mkAct _ _ g = A
                        have h55 : A.tmps[55]?.getD undef = .bool true := by rw [← hA, mkAct_in2 _ _ _ _ rfl rfl]; exact e55
                        refine step_val (v := .bool true) (w' := w') ?_ ⟨rfl, Ext.refl _ _⟩
                        simp [execOp, h55, Result.andThen, go_sem]
                      case f6_14e =>
                        intro f v g w' hJ hfi hb hd
                        refine arm_u rfl ?_
                        have eg : g 56 = .bool true := value_u (hd ⟨5, .guard⟩ (by simp) rfl) rfl rfl
                        refine op_yes rfl rfl rfl rfl eg ?_
                        generalize hA : mkAct _ _ g = A
                        have h6 : A.tmps[6]?.getD undef = .pointer (some ⟨q, 0, none⟩) := by rw [← hA]; exact mkAct_out2 _ _ _ _ _ rfl rfl
                        refine step_val (v := .pointer (some ⟨q, 0, none⟩)) (w' := w') ?_ ⟨rfl, Ext.refl _ _⟩
                        simp [execOp, h6, Result.andThen, go_sem]
                      case f7_14e =>
                        intro f v g w' hJ hfi hb hd
                        refine arm_u rfl ?_
                        have eg : g 56 = .bool true := value_u (hd ⟨5, .guard⟩ (by simp) rfl) rfl rfl
                        refine op_yes rfl rfl rfl rfl eg ?_
                        have e57 : g 57 = .pointer (some ⟨q, 0, none⟩) := value_u (hd ⟨6, .data⟩ (by simp) rfl) rfl rfl
                        generalize hA : mkAct _ _ g = A
                        have h57 : A.tmps[57]?.getD undef = .pointer (some ⟨q, 0, none⟩) := by rw [← hA, mkAct_in2 _ _ _ _ rfl rfl]; exact e57
                        refine step_val (v := .pointer (some ⟨q, 0, none⟩)) (w' := w') ?_ ⟨rfl, Ext.refl _ _⟩
                        simp [execOp, h57, Result.andThen, go_sem]
                      case f8_14e =>
                        intro f v g w' hJ hfi hb hd
                        refine arm_u rfl ?_
                        have eg : g 56 = .bool true := value_u (hd ⟨5, .guard⟩ (by simp) rfl) rfl rfl
                        refine op_yes rfl rfl rfl rfl eg ?_
                        have e58 : g 58 = .pointer (some ⟨q, 0, none⟩) := value_u (hd ⟨7, .data⟩ (by simp) rfl) rfl rfl
                        generalize hA : mkAct _ _ g = A
                        have h58 : A.tmps[58]?.getD undef = .pointer (some ⟨q, 0, none⟩) := by rw [← hA, mkAct_in2 _ _ _ _ rfl rfl]; exact e58
                        refine step_val (v := .pointer (some ⟨q, 2, none⟩)) (w' := w') ?_ ⟨rfl, Ext.refl _ _⟩
                        simp [execOp, h58, Result.andThen, go_sem]
                      case f9_14e =>
                        intro f v g w' hJ hfi hb hd
                        refine arm_u rfl ?_
                        have eg : g 56 = .bool true := value_u (hd ⟨5, .guard⟩ (by simp) rfl) rfl rfl
                        refine op_yes rfl rfl rfl rfl eg ?_
                        have e59 : g 59 = .pointer (some ⟨q, 2, none⟩) := value_u (hd ⟨8, .data⟩ (by simp) rfl) rfl rfl
                        generalize hA : mkAct _ _ g = A
                        have h59 : A.tmps[59]?.getD undef = .pointer (some ⟨q, 2, none⟩) := by rw [← hA, mkAct_in2 _ _ _ _ rfl rfl]; exact e59
                        have c := (cq w' hJ).2.2.1
                        refine step_val (v := .int .i64 ar) (w' := w') ?_ ⟨rfl, Ext.refl _ _⟩
                        simp [execOp, h59, c, Result.andThen, go_sem]
                      case f10_14e =>
                        intro f v g w' hJ hfi hb hd
                        refine arm_u rfl ?_
                        have eg : g 56 = .bool true := value_u (hd ⟨5, .guard⟩ (by simp) rfl) rfl rfl
                        refine op_yes rfl rfl rfl rfl eg ?_
                        have e60 : g 60 = .int .i64 ar := value_u (hd ⟨9, .data⟩ (by simp) rfl) rfl rfl
                        generalize hA : mkAct _ _ g = A
                        have h60 : A.tmps[60]?.getD undef = .int .i64 ar := by rw [← hA, mkAct_in2 _ _ _ _ rfl rfl]; exact e60
                        refine step_val (v := .bool false) (w' := w') ?_ ⟨rfl, Ext.refl _ _⟩
                        simp [execOp, e3b, h60, Result.andThen, go_sem]
                      case f11_14e =>
                        intro f v g w' hJ hfi hb hd
                        refine arm_u rfl ?_
                        have eg : g 56 = .bool true := value_u (hd ⟨5, .guard⟩ (by simp) rfl) rfl rfl
                        refine op_yes rfl rfl rfl rfl eg ?_
                        have e61 : g 61 = .bool false := value_u (hd ⟨10, .data⟩ (by simp) rfl) rfl rfl
                        generalize hA : mkAct _ _ g = A
                        have h61 : A.tmps[61]?.getD undef = .bool false := by rw [← hA, mkAct_in2 _ _ _ _ rfl rfl]; exact e61
                        refine step_val (v := .bool false) (w' := w') ?_ ⟨rfl, Ext.refl _ _⟩
                        simp [execOp, h61, Result.andThen, go_sem]
                      case f12_14e =>
                        intro f v g w' hJ hfi hb hd
                        refine arm_u rfl ?_
                        have eg : g 62 = .bool false := value_u (hd ⟨11, .guard⟩ (by simp) rfl) rfl rfl
                        refine op_yes rfl rfl rfl rfl eg ?_
                        generalize hA : mkAct _ _ g = A
                        have h12 : A.tmps[12]?.getD undef = .pointer (some ⟨M, 0, none⟩) := by rw [← hA]; exact mkAct_out2 _ _ _ _ _ rfl rfl
                        refine step_val (v := .pointer (some ⟨M, 0, none⟩)) (w' := w') ?_ ⟨rfl, Ext.refl _ _⟩
                        simp [execOp, h12, Result.andThen, go_sem]
                      case f13_14e =>
                        intro f v g w' hJ hfi hb hd
                        refine arm_u rfl ?_
                        have eg : g 62 = .bool false := value_u (hd ⟨11, .guard⟩ (by simp) rfl) rfl rfl
                        refine op_yes rfl rfl rfl rfl eg ?_
                        have e63 : g 63 = .pointer (some ⟨M, 0, none⟩) := value_u (hd ⟨12, .data⟩ (by simp) rfl) rfl rfl
                        generalize hA : mkAct _ _ g = A
                        have h63 : A.tmps[63]?.getD undef = .pointer (some ⟨M, 0, none⟩) := by rw [← hA, mkAct_in2 _ _ _ _ rfl rfl]; exact e63
                        have c := (cm w' hJ).1
                        refine step_val (v := .int .i64 l.idx) (w' := w') ?_ ⟨rfl, Ext.refl _ _⟩
                        simp [execOp, h63, c, Result.andThen, go_sem]
                      case f14_14e =>
                        intro f v g w' hJ hfi hb hd
                        refine arm_u rfl ?_
                        have eg : g 62 = .bool false := value_u (hd ⟨11, .guard⟩ (by simp) rfl) rfl rfl
                        refine op_yes rfl rfl rfl rfl eg ?_
                        generalize hA : mkAct _ _ g = A
                        have h6 : A.tmps[6]?.getD undef = .pointer (some ⟨q, 0, none⟩) := by rw [← hA]; exact mkAct_out2 _ _ _ _ _ rfl rfl
                        refine step_val (v := .pointer (some ⟨q, 0, none⟩)) (w' := w') ?_ ⟨rfl, Ext.refl _ _⟩
                        simp [execOp, h6, Result.andThen, go_sem]
                      case f15_14e =>
                        intro f v g w' hJ hfi hb hd
                        refine arm_u rfl ?_
                        have eg : g 62 = .bool false := value_u (hd ⟨11, .guard⟩ (by simp) rfl) rfl rfl
                        refine op_yes rfl rfl rfl rfl eg ?_
                        have e65 : g 65 = .pointer (some ⟨q, 0, none⟩) := value_u (hd ⟨14, .data⟩ (by simp) rfl) rfl rfl
                        generalize hA : mkAct _ _ g = A
                        have h65 : A.tmps[65]?.getD undef = .pointer (some ⟨q, 0, none⟩) := by rw [← hA, mkAct_in2 _ _ _ _ rfl rfl]; exact e65
                        refine step_val (v := .pointer (some ⟨q, 0, none⟩)) (w' := w') ?_ ⟨rfl, Ext.refl _ _⟩
                        simp [execOp, h65, Result.andThen, go_sem]
                      case f16_14e =>
                        intro f v g w' hJ hfi hb hd
                        refine arm_u rfl ?_
                        have eg : g 62 = .bool false := value_u (hd ⟨11, .guard⟩ (by simp) rfl) rfl rfl
                        refine op_yes rfl rfl rfl rfl eg ?_
                        have e66 : g 66 = .pointer (some ⟨q, 0, none⟩) := value_u (hd ⟨15, .data⟩ (by simp) rfl) rfl rfl
                        generalize hA : mkAct _ _ g = A
                        have h66 : A.tmps[66]?.getD undef = .pointer (some ⟨q, 0, none⟩) := by rw [← hA, mkAct_in2 _ _ _ _ rfl rfl]; exact e66
                        refine step_val (v := .pointer (some ⟨q, 3, none⟩)) (w' := w') ?_ ⟨rfl, Ext.refl _ _⟩
                        simp [execOp, h66, Result.andThen, go_sem]
                      case f17_14e =>
                        intro f v g w' hJ hfi hb hd
                        refine arm_u rfl ?_
                        have eg : g 62 = .bool false := value_u (hd ⟨11, .guard⟩ (by simp) rfl) rfl rfl
                        refine op_yes rfl rfl rfl rfl eg ?_
                        have e67 : g 67 = .pointer (some ⟨q, 3, none⟩) := value_u (hd ⟨16, .data⟩ (by simp) rfl) rfl rfl
                        generalize hA : mkAct _ _ g = A
                        have h67 : A.tmps[67]?.getD undef = .pointer (some ⟨q, 3, none⟩) := by rw [← hA, mkAct_in2 _ _ _ _ rfl rfl]; exact e67
                        refine step_val (v := .pointer (some ⟨q, 3, none⟩)) (w' := w') ?_ ⟨rfl, Ext.refl _ _⟩
                        simp [execOp, h67, Result.andThen, go_sem]
                      case f18_14e =>
                        intro f v g w' hJ hfi hb hd
                        refine arm_u rfl ?_
                        have eg : g 62 = .bool false := value_u (hd ⟨11, .guard⟩ (by simp) rfl) rfl rfl
                        refine op_yes rfl rfl rfl rfl eg ?_
                        have e68 : g 68 = .pointer (some ⟨q, 3, none⟩) := value_u (hd ⟨17, .data⟩ (by simp) rfl) rfl rfl
                        generalize hA : mkAct _ _ g = A
                        have h68 : A.tmps[68]?.getD undef = .pointer (some ⟨q, 3, none⟩) := by rw [← hA, mkAct_in2 _ _ _ _ rfl rfl]; exact e68
                        have c := (cq w' hJ).2.2.2.1
                        refine step_val (v := .int .i64 l0.idx) (w' := w') ?_ ⟨rfl, Ext.refl _ _⟩
                        simp [execOp, h68, c, Result.andThen, go_sem]
                      case f19_14e =>
                        intro f v g w' hJ hfi hb hd
                        refine arm_u rfl ?_
                        have eg : g 62 = .bool false := value_u (hd ⟨11, .guard⟩ (by simp) rfl) rfl rfl
                        refine op_yes rfl rfl rfl rfl eg ?_
                        have e64 : g 64 = .int .i64 l.idx := value_u (hd ⟨13, .data⟩ (by simp) rfl) rfl rfl
                        have e69 : g 69 = .int .i64 l0.idx := value_u (hd ⟨18, .data⟩ (by simp) rfl) rfl rfl
                        generalize hA : mkAct _ _ g = A
                        have h64 : A.tmps[64]?.getD undef = .int .i64 l.idx := by rw [← hA, mkAct_in2 _ _ _ _ rfl rfl]; exact e64
                        have h69 : A.tmps[69]?.getD undef = .int .i64 l0.idx := by rw [← hA, mkAct_in2 _ _ _ _ rfl rfl]; exact e69
                        refine step_val (v := .bool false) (w' := w') ?_ ⟨rfl, Ext.refl _ _⟩
                        simp [execOp, e4b, h64, h69, Result.andThen, go_sem]
                      case f20_14e =>
                        intro f v g w' hJ hfi hb hd
                        refine arm_u rfl ?_
                        have eg : g 56 = .bool true := value_u (hd ⟨5, .guard⟩ (by simp) rfl) rfl rfl
                        refine op_yes rfl rfl rfl rfl eg ?_
                        have e62 : g 62 = .bool false := value_u (hd ⟨11, .data⟩ (by simp) rfl) rfl rfl
                        have e70 : g 70 = .bool false := value_u (hd ⟨19, .data⟩ (by simp) rfl) rfl rfl
                        generalize hA : mkAct _ _ g = A
                        have h62 : A.tmps[62]?.getD undef = .bool false := by rw [← hA, mkAct_in2 _ _ _ _ rfl rfl]; exact e62
                        have h70 : A.tmps[70]?.getD undef = .bool false := by rw [← hA, mkAct_in2 _ _ _ _ rfl rfl]; exact e70
                        refine step_val (v := .bool false) (w' := w') ?_ ⟨rfl, Ext.refl _ _⟩
                        simp [execOp, h62, h70, Result.andThen, go_sem]
                      case f21_14e =>
                        intro f v g w' hJ hfi hb hd
                        refine arm_u rfl ?_
                        refine op_run rfl ?_
                        have e56 : g 56 = .bool true := value_u (hd ⟨5, .data⟩ (by simp) rfl) rfl rfl
                        have e71 : g 71 = .bool false := value_u (hd ⟨20, .data⟩ (by simp) rfl) rfl rfl
                        generalize hA : mkAct _ _ g = A
                        have h56 : A.tmps[56]?.getD undef = .bool true := by rw [← hA, mkAct_in2 _ _ _ _ rfl rfl]; exact e56
                        have h71 : A.tmps[71]?.getD undef = .bool false := by rw [← hA, mkAct_in2 _ _ _ _ rfl rfl]; exact e71
                        refine step_val (v := .bool false) (w' := w') ?_ ⟨rfl, Ext.refl _ _⟩
                        simp [execOp, h56, h71, Result.andThen, go_sem]
                    intro f v g wn hJ hk
                    have e72 : g 72 = .bool false := value_u (hk 21 (by decide)) rfl rfl
                    clear hk cq cm
                    unfold mkAct; simp only [List.zipIdx_cons, List.zipIdx_nil, List.map_cons, List.map_nil, Nat.zero_add, Nat.reduceAdd, List.contains_cons, List.contains_nil, Nat.reduceBEq, Bool.or_false, Bool.or_true, ↓reduceIte, Bool.false_eq_true]
                    rw [e72]
                    go_wp2_with fail
                    go_meet
                    exact ⟨rfl, hJ⟩
            · obtain rfl : T = false := by rw [HT.out]; exact decide_eq_false (fun h => e1 h.1)
              have e1b : (st == 1) = false := by simp [e1]
              refine wp_region_u [51, 52, 53, 54, 55, 56, 57, 58, 59, 60, 61, 62, 63, 64, 65, 66, 67, 68, 69, 70, 71, 72] [] (fun n => match n with | 0 => .int .i64 st | 1 => .bool false | 2 => .bool false | 3 => undef | 4 => .bool false | 5 => .bool false | 6 => undef | 7 => undef | 8 => undef | 9 => undef | 10 => undef | 11 => undef | 12 => undef | 13 => undef | 14 => undef | 15 => undef | 16 => undef | 17 => undef | 18 => undef | 19 => undef | 20 => undef | 21 => .bool false | _ => undef) (fun f v w => Ext [] W6 w) (by kernel_rfl) (by kernel_rfl) ?hst0_14a ?h00_14a ?hst_14a ?hend_14a
              case hst0_14a =>
                exact fun f v w w' h hx => h.then0 hx
              case h00_14a =>
                exact Ext.refl _ _
              case hst_14a =>
                refine ⟨?f0_14a, ?f1_14a, ?f2_14a, ?f3_14a, ?f4_14a, ?f5_14a, ?f6_14a, ?f7_14a, ?f8_14a, ?f9_14a, ?f10_14a, ?f11_14a, ?f12_14a, ?f13_14a, ?f14_14a, ?f15_14a, ?f16_14a, ?f17_14a, ?f18_14a, ?f19_14a, ?f20_14a, ?f21_14a, trivial⟩
                case f0_14a =>
                  intro f v g w' hJ hfi hb hd
                  refine arm_u rfl ?_
                  refine op_run rfl ?_
                  generalize hA : mkAct _ _ g = A
                  have h10 : A.tmps[10]?.getD undef = .int .i64 st := by rw [← hA]; exact mkAct_out2 _ _ _ _ _ rfl rfl
                  refine step_val (v := .int .i64 st) (w' := w') ?_ ⟨rfl, Ext.refl _ _⟩
                  simp [execOp, h10, Result.andThen, go_sem]
                case f1_14a =>
                  intro f v g w' hJ hfi hb hd
                  refine arm_u rfl ?_
                  refine op_run rfl ?_
                  have e51 : g 51 = .int .i64 st := value_u (hd ⟨0, .data⟩ (by simp) rfl) rfl rfl
                  generalize hA : mkAct _ _ g = A
                  have h51 : A.tmps[51]?.getD undef = .int .i64 st := by rw [← hA, mkAct_in2 _ _ _ _ rfl rfl]; exact e51
                  refine step_val (v := .bool false) (w' := w') ?_ ⟨rfl, Ext.refl _ _⟩
                  simp [execOp, e1b, h51, Result.andThen, go_sem]
                case f2_14a =>
                  intro f v g w' hJ hfi hb hd
                  refine arm_u rfl ?_
                  refine op_run rfl ?_
                  have e52 : g 52 = .bool false := value_u (hd ⟨1, .data⟩ (by simp) rfl) rfl rfl
                  generalize hA : mkAct _ _ g = A
                  have h52 : A.tmps[52]?.getD undef = .bool false := by rw [← hA, mkAct_in2 _ _ _ _ rfl rfl]; exact e52
                  refine step_val (v := .bool false) (w' := w') ?_ ⟨rfl, Ext.refl _ _⟩
                  simp [execOp, h52, Result.andThen, go_sem]
                case f3_14a =>
                  intro f v g w' hJ hfi hb hd
                  refine arm_u rfl ?_
                  have eg : g 53 = .bool false := value_u (hd ⟨2, .guard⟩ (by simp) rfl) rfl rfl
                  exact op_no rfl rfl rfl rfl false eg (by decide) ⟨rfl, Ext.refl _ _⟩
                case f4_14a =>
                  intro f v g w' hJ hfi hb hd
                  refine arm_u rfl ?_
                  refine op_run rfl ?_
                  have e53 : g 53 = .bool false := value_u (hd ⟨2, .data⟩ (by simp) rfl) rfl rfl
                  have e54 : g 54 = undef := value_u (hd ⟨3, .data⟩ (by simp) rfl) rfl rfl
                  generalize hA : mkAct _ _ g = A
                  have h53 : A.tmps[53]?.getD undef = .bool false := by rw [← hA, mkAct_in2 _ _ _ _ rfl rfl]; exact e53
                  have h54 : A.tmps[54]?.getD undef = undef := by rw [← hA, mkAct_in2 _ _ _ _ rfl rfl]; exact e54
                  refine step_val (v := .bool false) (w' := w') ?_ ⟨rfl, Ext.refl _ _⟩
                  simp [execOp, h53, h54, Result.andThen, go_sem]
                case f5_14a =>
                  intro f v g w' hJ hfi hb hd
                  refine arm_u rfl ?_
                  refine op_run rfl ?_
                  have e55 : g 55 = .bool false := value_u (hd ⟨4, .data⟩ (by simp) rfl) rfl rfl
                  generalize hA : mkAct _ _ g = A
                  have h55 : A.tmps[55]?.getD undef = .bool false := by rw [← hA, mkAct_in2 _ _ _ _ rfl rfl]; exact e55
                  refine step_val (v := .bool false) (w' := w') ?_ ⟨rfl, Ext.refl _ _⟩
                  simp [execOp, h55, Result.andThen, go_sem]
                case f6_14a =>
                  intro f v g w' hJ hfi hb hd
                  refine arm_u rfl ?_
                  have eg : g 56 = .bool false := value_u (hd ⟨5, .guard⟩ (by simp) rfl) rfl rfl
                  exact op_no rfl rfl rfl rfl false eg (by decide) ⟨rfl, Ext.refl _ _⟩
                case f7_14a =>
                  intro f v g w' hJ hfi hb hd
                  refine arm_u rfl ?_
                  have eg : g 56 = .bool false := value_u (hd ⟨5, .guard⟩ (by simp) rfl) rfl rfl
                  exact op_no rfl rfl rfl rfl false eg (by decide) ⟨rfl, Ext.refl _ _⟩
                case f8_14a =>
                  intro f v g w' hJ hfi hb hd
                  refine arm_u rfl ?_
                  have eg : g 56 = .bool false := value_u (hd ⟨5, .guard⟩ (by simp) rfl) rfl rfl
                  exact op_no rfl rfl rfl rfl false eg (by decide) ⟨rfl, Ext.refl _ _⟩
                case f9_14a =>
                  intro f v g w' hJ hfi hb hd
                  refine arm_u rfl ?_
                  have eg : g 56 = .bool false := value_u (hd ⟨5, .guard⟩ (by simp) rfl) rfl rfl
                  exact op_no rfl rfl rfl rfl false eg (by decide) ⟨rfl, Ext.refl _ _⟩
                case f10_14a =>
                  intro f v g w' hJ hfi hb hd
                  refine arm_u rfl ?_
                  have eg : g 56 = .bool false := value_u (hd ⟨5, .guard⟩ (by simp) rfl) rfl rfl
                  exact op_no rfl rfl rfl rfl false eg (by decide) ⟨rfl, Ext.refl _ _⟩
                case f11_14a =>
                  intro f v g w' hJ hfi hb hd
                  refine arm_u rfl ?_
                  have eg : g 56 = .bool false := value_u (hd ⟨5, .guard⟩ (by simp) rfl) rfl rfl
                  exact op_no rfl rfl rfl rfl false eg (by decide) ⟨rfl, Ext.refl _ _⟩
                case f12_14a =>
                  intro f v g w' hJ hfi hb hd
                  refine arm_u rfl ?_
                  have eg : g 62 = undef := value_u (hd ⟨11, .guard⟩ (by simp) rfl) rfl rfl
                  exact op_undef rfl rfl rfl rfl eg ⟨rfl, Ext.refl _ _⟩
                case f13_14a =>
                  intro f v g w' hJ hfi hb hd
                  refine arm_u rfl ?_
                  have eg : g 62 = undef := value_u (hd ⟨11, .guard⟩ (by simp) rfl) rfl rfl
                  exact op_undef rfl rfl rfl rfl eg ⟨rfl, Ext.refl _ _⟩
                case f14_14a =>
                  intro f v g w' hJ hfi hb hd
                  refine arm_u rfl ?_
                  have eg : g 62 = undef := value_u (hd ⟨11, .guard⟩ (by simp) rfl) rfl rfl
                  exact op_undef rfl rfl rfl rfl eg ⟨rfl, Ext.refl _ _⟩
                case f15_14a =>
                  intro f v g w' hJ hfi hb hd
                  refine arm_u rfl ?_
                  have eg : g 62 = undef := value_u (hd ⟨11, .guard⟩ (by simp) rfl) rfl rfl
                  exact op_undef rfl rfl rfl rfl eg ⟨rfl, Ext.refl _ _⟩
                case f16_14a =>
                  intro f v g w' hJ hfi hb hd
                  refine arm_u rfl ?_
                  have eg : g 62 = undef := value_u (hd ⟨11, .guard⟩ (by simp) rfl) rfl rfl
                  exact op_undef rfl rfl rfl rfl eg ⟨rfl, Ext.refl _ _⟩
                case f17_14a =>
                  intro f v g w' hJ hfi hb hd
                  refine arm_u rfl ?_
                  have eg : g 62 = undef := value_u (hd ⟨11, .guard⟩ (by simp) rfl) rfl rfl
                  exact op_undef rfl rfl rfl rfl eg ⟨rfl, Ext.refl _ _⟩
                case f18_14a =>
                  intro f v g w' hJ hfi hb hd
                  refine arm_u rfl ?_
                  have eg : g 62 = undef := value_u (hd ⟨11, .guard⟩ (by simp) rfl) rfl rfl
                  exact op_undef rfl rfl rfl rfl eg ⟨rfl, Ext.refl _ _⟩
                case f19_14a =>
                  intro f v g w' hJ hfi hb hd
                  refine arm_u rfl ?_
                  have eg : g 62 = undef := value_u (hd ⟨11, .guard⟩ (by simp) rfl) rfl rfl
                  exact op_undef rfl rfl rfl rfl eg ⟨rfl, Ext.refl _ _⟩
                case f20_14a =>
                  intro f v g w' hJ hfi hb hd
                  refine arm_u rfl ?_
                  have eg : g 56 = .bool false := value_u (hd ⟨5, .guard⟩ (by simp) rfl) rfl rfl
                  exact op_no rfl rfl rfl rfl false eg (by decide) ⟨rfl, Ext.refl _ _⟩
                case f21_14a =>
                  intro f v g w' hJ hfi hb hd
                  refine arm_u rfl ?_
                  refine op_run rfl ?_
                  have e56 : g 56 = .bool false := value_u (hd ⟨5, .data⟩ (by simp) rfl) rfl rfl
                  have e71 : g 71 = undef := value_u (hd ⟨20, .data⟩ (by simp) rfl) rfl rfl
                  generalize hA : mkAct _ _ g = A
                  have h56 : A.tmps[56]?.getD undef = .bool false := by rw [← hA, mkAct_in2 _ _ _ _ rfl rfl]; exact e56
                  have h71 : A.tmps[71]?.getD undef = undef := by rw [← hA, mkAct_in2 _ _ _ _ rfl rfl]; exact e71
                  refine step_val (v := .bool false) (w' := w') ?_ ⟨rfl, Ext.refl _ _⟩
                  simp [execOp, h56, h71, Result.andThen, go_sem]
              intro f v g wn hJ hk
              have e72 : g 72 = .bool false := value_u (hk 21 (by decide)) rfl rfl
              clear hk cq cm
              unfold mkAct; simp only [List.zipIdx_cons, List.zipIdx_nil, List.map_cons, List.map_nil, Nat.zero_add, Nat.reduceAdd, List.contains_cons, List.contains_nil, Nat.reduceBEq, Bool.or_false, Bool.or_true, ↓reduceIte, Bool.false_eq_true]
              rw [e72]
              go_wp2_with fail
              go_meet
              exact ⟨rfl, hJ⟩
          case rest =>
            obtain ⟨rfl, HJ⟩ := hcut
            have HXc := Hid.of (HX6.out.then0 HJ.out)
            cases hTT : T with
            | false =>
              have hcd : Hid (scanS base V (2 * a + (k + 1)) = (ar, l0)) := Hid.of (by
                rw [hstep.out, HC.out, if_neg]
                have := HT.out
                rw [hTT] at this
                exact of_decide_eq_false this.symm)
              clear HT HC hstep
              go_wp2
              go_roundw
              case rel =>
                refine ⟨k + 1, by go_num, by omega, ?_⟩
                refine ⟨sv, ?_, ?_, HN.out, HDv.out.keep HXc.out, HX.out.then0 HXc.out, HFr.out⟩
                · rw [hcd.out]; exact Blk.keep HB.out HXc.out (by simp)
                · rw [hcd.out]; exact HS.out.keep0 HXc.out
              case measure => simp [intOf]; omega
            | true =>
              have hcd : Hid (scanS base V (2 * a + (k + 1)) = ((a : Int), l)) := Hid.of (by
                rw [hstep.out, HC.out, if_pos]
                have := HT.out
                rw [hTT] at this
                exact of_decide_eq_true this.symm)
              clear HT HC hstep
              have HBc := Hid.of (Blk.keep HB.out HXc.out (by simp))
              have cm := Blk.keep HM6.out HJ.out (by simp)
              have hMn : M ∉ [q] := by simpa using HMq.out
              go_upto_region 15 with fail
              refine wp_region_u [73, 74, 75, 76, 77, 78, 79, 80] [6, 9] (fun n => match n with | 0 => .pointer (some ⟨q, 0, none⟩) | 1 => .pointer (some ⟨q, 0, none⟩) | 2 => .int .i64 (a : Int) | 3 => .agg #[.int .i64 l.idx, .int .i64 l.term, .int .i64 l.bytes, .slice sa l.sums.length sc] | 4 => .pointer (some ⟨q, 0, none⟩) | 5 => .pointer (some ⟨q, 2, none⟩) | 7 => .pointer (some ⟨q, 0, none⟩) | 8 => .pointer (some ⟨q, 3, none⟩) | _ => undef) (fun f v w => Ext [q] wc w ∧ (f 6 = false → Blk w q 84 [.pointer (some ⟨b, 0, none⟩), .int .i64 base, .int .i64 ar, .int .i64 l0.idx, .int .i64 l0.term, .int .i64 l0.bytes, sv]) ∧ (f 6 = true → f 9 = false → Blk w q 84 [.pointer (some ⟨b, 0, none⟩), .int .i64 base, .int .i64 (a : Int), .int .i64 l0.idx, .int .i64 l0.term, .int .i64 l0.bytes, sv]) ∧ (f 9 = true → Blk w q 84 [.pointer (some ⟨b, 0, none⟩), .int .i64 base, .int .i64 (a : Int), .int .i64 l.idx, .int .i64 l.term, .int .i64 l.bytes, .slice sa l.sums.length sc])) (by kernel_rfl) (by kernel_rfl) ?hst0_15 ?h00_15 ?hst_15 ?hend_15
              case hst0_15 =>
                rintro f v w w' ⟨hx, j1, j2, j3⟩ hx2
                exact ⟨hx.then0 hx2, fun h => Blk.keep (j1 h) hx2 List.not_mem_nil, fun h h' => Blk.keep (j2 h h') hx2 List.not_mem_nil, fun h => Blk.keep (j3 h) hx2 List.not_mem_nil⟩
              case h00_15 =>
                exact ⟨Ext.refl _ _, fun _ => HBc.out, fun h => (by cases h), fun h => (by cases h)⟩
              case hst_15 =>
                refine ⟨?f0_15, ?f1_15, ?f2_15, ?f3_15, ?f4_15, ?f5_15, ?f6_15, ?f7_15, ?f8_15, ?f9_15, trivial⟩
                case f0_15 =>
                  intro f v g w' hJ hfi hb hd
                  refine arm_u rfl ?_
                  refine op_run rfl ?_
                  generalize hA : mkAct _ _ g = A
                  have h6 : A.tmps[6]?.getD undef = .pointer (some ⟨q, 0, none⟩) := by rw [← hA]; exact mkAct_out2 _ _ _ _ _ rfl rfl
                  refine step_val (v := .pointer (some ⟨q, 0, none⟩)) (w' := w') ?_ ⟨rfl, Ext.refl _ _⟩
                  simp [execOp, h6, Result.andThen, go_sem]
                case f1_15 =>
                  intro f v g w' hJ hfi hb hd
                  refine arm_u rfl ?_
                  refine op_run rfl ?_
                  generalize hA : mkAct _ _ g = A
                  have h6 : A.tmps[6]?.getD undef = .pointer (some ⟨q, 0, none⟩) := by rw [← hA]; exact mkAct_out2 _ _ _ _ _ rfl rfl
                  refine step_val (v := .pointer (some ⟨q, 0, none⟩)) (w' := w') ?_ ⟨rfl, Ext.refl _ _⟩
                  simp [execOp, h6, Result.andThen, go_sem]
                case f2_15 =>
                  intro f v g w' hJ hfi hb hd
                  refine arm_u rfl ?_
                  refine op_run rfl ?_
                  generalize hA : mkAct _ _ g = A
                  have h7 : A.tmps[7]?.getD undef = .int .i64 (a : Int) := by rw [← hA]; exact mkAct_out2 _ _ _ _ _ rfl rfl
                  refine step_val (v := .int .i64 (a : Int)) (w' := w') ?_ ⟨rfl, Ext.refl _ _⟩
                  simp [execOp, h7, Result.andThen, go_sem]
                case f3_15 =>
                  intro f v g w' hJ hfi hb hd
                  refine arm_u rfl ?_
                  refine op_run rfl ?_
                  generalize hA : mkAct _ _ g = A
                  have h12 : A.tmps[12]?.getD undef = .pointer (some ⟨M, 0, none⟩) := by rw [← hA]; exact mkAct_out2 _ _ _ _ _ rfl rfl
                  obtain ⟨d0, d1, d2, d3⟩ := (Blk4 (Blk.keep cm hJ.1 hMn))
                  refine step_val (v := .agg #[.int .i64 l.idx, .int .i64 l.term, .int .i64 l.bytes, .slice sa l.sums.length sc]) (w' := w') ?_ ⟨rfl, Ext.refl _ _⟩
                  simp [execOp, h12, d0, d1, d2, d3, Result.andThen, go_sem]
                case f4_15 =>
                  intro f v g w' hJ hfi hb hd
                  refine arm_u rfl ?_
                  refine op_run rfl ?_
                  have e73 : g 73 = .pointer (some ⟨q, 0, none⟩) := value_u (hd ⟨0, .data⟩ (by simp) rfl) rfl rfl
                  generalize hA : mkAct _ _ g = A
                  have h73 : A.tmps[73]?.getD undef = .pointer (some ⟨q, 0, none⟩) := by rw [← hA, mkAct_in2 _ _ _ _ rfl rfl]; exact e73
                  refine step_val (v := .pointer (some ⟨q, 0, none⟩)) (w' := w') ?_ ⟨rfl, Ext.refl _ _⟩
                  simp [execOp, h73, Result.andThen, go_sem]
                case f5_15 =>
                  intro f v g w' hJ hfi hb hd
                  refine arm_u rfl ?_
                  refine op_run rfl ?_
                  have e77 : g 77 = .pointer (some ⟨q, 0, none⟩) := value_u (hd ⟨4, .data⟩ (by simp) rfl) rfl rfl
                  generalize hA : mkAct _ _ g = A
                  have h77 : A.tmps[77]?.getD undef = .pointer (some ⟨q, 0, none⟩) := by rw [← hA, mkAct_in2 _ _ _ _ rfl rfl]; exact e77
                  refine step_val (v := .pointer (some ⟨q, 2, none⟩)) (w' := w') ?_ ⟨rfl, Ext.refl _ _⟩
                  simp [execOp, h77, Result.andThen, go_sem]
                case f6_15 =>
                  intro f v g w' hJ hfi hb hd
                  refine arms_u rfl ?_
                  refine op_run rfl ?_
                  have e78 : g 78 = .pointer (some ⟨q, 2, none⟩) := value_u (hd ⟨5, .data⟩ (by simp) rfl) rfl rfl
                  have e75 : g 75 = .int .i64 (a : Int) := value_u (hd ⟨2, .data⟩ (by simp) rfl) rfl rfl
                  generalize hA : mkAct _ _ g = A
                  have h78 : A.tmps[78]?.getD undef = .pointer (some ⟨q, 2, none⟩) := by rw [← hA, mkAct_in2 _ _ _ _ rfl rfl]; exact e78
                  have h75 : A.tmps[75]?.getD undef = .int .i64 (a : Int) := by rw [← hA, mkAct_in2 _ _ _ _ rfl rfl]; exact e75
                  have hB0 := hJ.2.1 hfi
                  have c0 : w'.cell? ⟨q, 2, none⟩ = some (.int .i64 ar) := Blk.c hB0 2
                  have cf := fun j => Blk.f hB0 j
                  have cl := Blk.lt hB0
                  have HX9 : Ext [q] w' (w'.setCell ⟨q, 2, none⟩ (.int .i64 (a : Int))) := ((Ext.refl [q] w').setCell (p := ⟨q, 2, none⟩) (.inl (List.mem_singleton.2 rfl)) (.int .i64 (a : Int)))
                  have HB9 := (Blk.set hB0 2 (.int .i64 (a : Int)))
                  refine step_skip (w' := (w'.setCell ⟨q, 2, none⟩ (.int .i64 (a : Int)))) ?_ ⟨undef, rfl, hJ.1.trans HX9 (fun z hz => .inl hz), fun h => (by cases h), fun _ _ => HB9, fun h => (by have h' : f 9 = true := h; rw [not_yet hb (by kernel_rfl)] at h'; cases h')⟩
                  simp [execOp, h78, h75, c0, cf, cl, Result.andThen, go_sem]
                case f7_15 =>
                  intro f v g w' hJ hfi hb hd
                  refine arm_u rfl ?_
                  refine op_run rfl ?_
                  have e74 : g 74 = .pointer (some ⟨q, 0, none⟩) := value_u (hd ⟨1, .data⟩ (by simp) rfl) rfl rfl
                  generalize hA : mkAct _ _ g = A
                  have h74 : A.tmps[74]?.getD undef = .pointer (some ⟨q, 0, none⟩) := by rw [← hA, mkAct_in2 _ _ _ _ rfl rfl]; exact e74
                  refine step_val (v := .pointer (some ⟨q, 0, none⟩)) (w' := w') ?_ ⟨rfl, Ext.refl _ _⟩
                  simp [execOp, h74, Result.andThen, go_sem]
                case f8_15 =>
                  intro f v g w' hJ hfi hb hd
                  refine arm_u rfl ?_
                  refine op_run rfl ?_
                  have e79 : g 79 = .pointer (some ⟨q, 0, none⟩) := value_u (hd ⟨7, .data⟩ (by simp) rfl) rfl rfl
                  generalize hA : mkAct _ _ g = A
                  have h79 : A.tmps[79]?.getD undef = .pointer (some ⟨q, 0, none⟩) := by rw [← hA, mkAct_in2 _ _ _ _ rfl rfl]; exact e79
                  refine step_val (v := .pointer (some ⟨q, 3, none⟩)) (w' := w') ?_ ⟨rfl, Ext.refl _ _⟩
                  simp [execOp, h79, Result.andThen, go_sem]
                case f9_15 =>
                  intro f v g w' hJ hfi hb hd
                  refine arms_u rfl ?_
                  refine op_run rfl ?_
                  have e80 : g 80 = .pointer (some ⟨q, 3, none⟩) := value_u (hd ⟨8, .data⟩ (by simp) rfl) rfl rfl
                  have e76 : g 76 = .agg #[.int .i64 l.idx, .int .i64 l.term, .int .i64 l.bytes, .slice sa l.sums.length sc] := value_u (hd ⟨3, .data⟩ (by simp) rfl) rfl rfl
                  generalize hA : mkAct _ _ g = A
                  have h80 : A.tmps[80]?.getD undef = .pointer (some ⟨q, 3, none⟩) := by rw [← hA, mkAct_in2 _ _ _ _ rfl rfl]; exact e80
                  have h76 : A.tmps[76]?.getD undef = .agg #[.int .i64 l.idx, .int .i64 l.term, .int .i64 l.bytes, .slice sa l.sums.length sc] := by rw [← hA, mkAct_in2 _ _ _ _ rfl rfl]; exact e76
                  have hB0 := hJ.2.2.1 ((hd ⟨6, .chain⟩ (by simp) rfl).2 rfl).1 hfi
                  have c0 : w'.cell? ⟨q, 3, none⟩ = some (.int .i64 l0.idx) := Blk.c hB0 3
                  have c1 : w'.cell? ⟨q, 4, none⟩ = some (.int .i64 l0.term) := Blk.c hB0 4
                  have c2 : w'.cell? ⟨q, 5, none⟩ = some (.int .i64 l0.bytes) := Blk.c hB0 5
                  have c3 : w'.cell? ⟨q, 6, none⟩ = some (sv) := Blk.c hB0 6
                  have cf := fun j => Blk.f hB0 j
                  have cl := Blk.lt hB0
                  have HX9 : Ext [q] w' ((((w'.setCell ⟨q, 3, none⟩ (.int .i64 l.idx)).setCell ⟨q, 4, none⟩ (.int .i64 l.term)).setCell ⟨q, 5, none⟩ (.int .i64 l.bytes)).setCell ⟨q, 6, none⟩ (.slice sa l.sums.length sc)) := (((((Ext.refl [q] w').setCell (p := ⟨q, 3, none⟩) (.inl (List.mem_singleton.2 rfl)) (.int .i64 l.idx)).setCell (p := ⟨q, 4, none⟩) (.inl (List.mem_singleton.2 rfl)) (.int .i64 l.term)).setCell (p := ⟨q, 5, none⟩) (.inl (List.mem_singleton.2 rfl)) (.int .i64 l.bytes)).setCell (p := ⟨q, 6, none⟩) (.inl (List.mem_singleton.2 rfl)) (.slice sa l.sums.length sc))
                  have HB9 := (Blk.set (Blk.set (Blk.set (Blk.set hB0 3 (.int .i64 l.idx)) 4 (.int .i64 l.term)) 5 (.int .i64 l.bytes)) 6 (.slice sa l.sums.length sc))
                  refine step_skip (w' := ((((w'.setCell ⟨q, 3, none⟩ (.int .i64 l.idx)).setCell ⟨q, 4, none⟩ (.int .i64 l.term)).setCell ⟨q, 5, none⟩ (.int .i64 l.bytes)).setCell ⟨q, 6, none⟩ (.slice sa l.sums.length sc))) ?_ ⟨undef, rfl, hJ.1.trans HX9 (fun z hz => .inl hz), fun h => (by have h' : f 6 = false := h; rw [((hd ⟨6, .chain⟩ (by simp) rfl).2 rfl).1] at h'; cases h'), fun _ h => (by cases h), fun _ => HB9⟩
                  simp [execOp, h80, h76, c0, c1, c2, c3, cf, cl, Result.andThen, go_sem]
              intro f v g wn hJ hk
              have hfs6 : f 6 = true := ((hk 6 (by decide)).2 rfl).1
              have hfs9 : f 9 = true := ((hk 9 (by decide)).2 rfl).1
              obtain ⟨hx9, -, -, j3⟩ := hJ
              have hbn := j3 hfs9
              have HBn := Hid.of hbn
              have HX9 := Hid.of hx9
              clear hk j3 hbn hx9 cm
              unfold mkAct; simp only [List.zipIdx_cons, List.zipIdx_nil, List.map_cons, List.map_nil, Nat.zero_add, Nat.reduceAdd, List.contains_cons, List.contains_nil, Nat.reduceBEq, Bool.or_false, Bool.or_true, ↓reduceIte, Bool.false_eq_true]
              go_wp2
              go_roundw
              case rel =>
                have hqn : q ∉ vblocks (.slice sa l.sums.length sc) := fun hm => by have := (HZ6.out q hm).1; have := HX4.out.size; have := HQ6.out; omega
                refine ⟨k + 1, by go_num, by omega, .slice sa l.sums.length sc, ?_, ?_, hqn, ?_, (HX.out.then0 HXc.out).trans HX9.out (fun z hz => .inl hz), fun z hz => by have := (HZ6.out z hz).1; have := HX4.out.size; have := HX.out.size; omega⟩
                · rw [hcd.out]; exact HBn.out
                · rw [hcd.out]; exact (HS6.out.keep0 HJ.out).keep HX9.out (fun z hz hm => hqn (by simp at hm; exact hm ▸ hz))
                · have hd4 := HDv.out.keep HX4.out
                  have hd6 := hd4.addL (w' := wc) (HX46.out.then0 HJ.out) (vblocks (.slice sa l.sums.length sc)) (fun z hz => ⟨(HZ6.out z hz).1, Nat.lt_of_lt_of_le (HZ6.out z hz).2 HJ.out.size⟩)
                  refine (hd6.other HX9.out (by simp) HQ0.out).sub (fun z hz => ?_)
                  simp only [List.mem_cons, List.mem_append] at hz ⊢
                  rcases hz with h | h | h
                  · exact .inr (.inl h)
                  · exact .inl h
                  · exact .inr (.inr (.inr h))
              case measure => simp [intOf]; omega
        · have hI2 : Hid (OpenI w0 q b D base V O W (2 * (a + 1)) wr) := Hid.of (by have e : 2 * (a + 1) = 2 * a + k := (by omega); rw [e]; exact hI.out)
          clear hI
          go_wp2
          go_roundw
          case rel => exact ⟨a + 1, by go_num, by omega, hI2⟩
          case measure => simp [intOf]; omega
    · have hI2 : Hid (OpenI w0 q b D base V O W 4 wr) := Hid.of (by have e : 4 = 2 * a := (by omega); rw [e]; exact hI.out)
      clear hI
      go_wp2
      go_ret2
      obtain ⟨sv, hB, hS, hn, hd, hx, hfr⟩ := hI2.out
      have hWs := HXW.out.size
      have hqw : w.heap.size ≤ q := by omega
      exact ⟨q, sv, rfl, ⟨hB, hS, hd, openSt_ok h1 h2 hbig, HQ0.out, hn, fun hm => (by have := HOl.out q hm; omega), fun z hz hm => (by have := HOl.out z hm; have := hfr z hz; omega)⟩, HXW.out.trans hx (by simp; omega), hqw⟩
end Go.Proofs.Ytlnfigbcdmfmdaa
