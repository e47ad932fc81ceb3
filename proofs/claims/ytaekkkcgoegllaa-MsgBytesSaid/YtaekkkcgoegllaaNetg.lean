/- Package net: the walk of Send. -/
import Derived.Test.YtaekkkcgoegllaaNetf
import Derived.Test.YtaekkkcgoegllaaRegLast
namespace Go.Proofs.Ytaekkkcgoegllaa
open Go.RowKit
set_option linter.unusedVariables false
set_option linter.unusedSimpArgs false
attribute [local go_sem high] run_max2 run_min2

def msgs (ms : List Ms) : List Value := ms.flatMap Ms.cells
theorem msgs_len (ms : List Ms) : (msgs ms).length = ms.length * 17 := flatMap_len _ 17 mcells_len ms
theorem mcells_one (m : Ms) : ∀ v ∈ m.cells, v.oneCell' = true := by
  intro v hv
  simp only [Ms.cells, List.mem_cons, List.not_mem_nil, or_false] at hv
  rcases hv with rfl | rfl | rfl | rfl | rfl | rfl | rfl | rfl | rfl | rfl | rfl | rfl | rfl | rfl | rfl | rfl | rfl <;> rfl
def sendF (d : Int) : List Ms → Int → List Lt → Int × List Lt
  | [], s, A => (s, A)
  | m :: r, s, A => if 2000 ≤ A.length then (s, A) else sendF d r (s + 1) (A ++ [⟨d, s + 1, m⟩])
theorem sendF_full (d : Int) (ms : List Ms) (s : Int) (A : List Lt) (h : 2000 ≤ A.length) : sendF d ms s A = (s, A) := by
  cases ms with
  | nil => rfl
  | cons m r => rw [sendF, if_pos h]
theorem msgs_range {w : World} {q o : Nat} {ms : List Ms} (h : ∀ j u, (msgs ms)[j]? = some u → w.cell? ⟨q, o + j, none⟩ = some u) (k : Nat) (hk : k < ms.length) : w.rangeAt q (o + k * 17) ms[k].cells := by
  intro j v hv
  rw [Nat.add_assoc]
  apply h
  have hj : j < 17 := by have := (List.getElem?_eq_some_iff.1 hv).1; rwa [mcells_len] at this
  rw [← hv]
  exact flatMap_get Ms.cells 17 mcells_len ms k j hk hj
def sdV (b : Nat) (now delay s1 : Int) (m : Ms) (n : Nat) : Value := match n with
  | 0 => .pointer (some ⟨b, 0, none⟩)
  | 1 => .pointer (some ⟨b, 0, none⟩)
  | 2 => .pointer (some ⟨b, 0, none⟩)
  | 3 => .iface 72 (.pointer (some ⟨b, 0, none⟩))
  | 4 => .pointer (some ⟨b, 0, none⟩)
  | 5 => .pointer (some ⟨b, 0, none⟩)
  | 6 => .pointer (some ⟨b, 1, none⟩)
  | 7 => .int .i64 now
  | 8 => .int .i64 delay
  | 9 => .int .i64 (max delay 0)
  | 10 => .int .i64 (min (max delay 0) 1048576)
  | 11 => .int .i64 (now + min (max delay 0) 1048576)
  | 12 => .pointer (some ⟨b, 0, none⟩)
  | 13 => .pointer (some ⟨b, 0, none⟩)
  | 14 => .pointer (some ⟨b, 2, none⟩)
  | 15 => .int .i64 (s1 + 1)
  | 16 => .agg m.cells.toArray
  | 17 => .agg (Lt.cells ⟨now + min (max delay 0) 1048576, s1 + 1, m⟩).toArray
  | 18 => .iface 74 (.agg (Lt.cells ⟨now + min (max delay 0) 1048576, s1 + 1, m⟩).toArray)
  | _ => undef
theorem bld_let (d s : Int) (m : Ms) (W : World) : (Instr.build 74 #[(0, .int .i64 d), (1, .int .i64 s), (2, .agg m.cells.toArray)]).run Try.prog W = .ok (.agg (Lt.cells ⟨d, s, m⟩).toArray) W := by kernel_rfl
theorem last_call {P : Program} {o : Oper} {A : Act} {w : World} {Q : Exit → Act → World → Prop} {d : Nat} (hd : o.dst = some d) {Post : Value → World → Prop} (h : ∀ K : Act → World → Prop, (∀ v w', Post v w' → K (A.put o.dst v) w') → o.wp P A w K Q) (hQ : ∀ v w', Post v w' → Q .normal (A.put (some d) v) w') : o.wp P A w (fun a' w' => Q .normal a' w') Q := h _ (by rw [hd]; exact hQ)
set_option maxRecDepth 100000 in
set_option maxHeartbeats 6400000 in
theorem nsend_any {w : World} {b : Nat} {v : Value} {now seq : Int} {A : List Lt} (h : NetS w b v now seq A) (hA : A.length ≤ 2000) (delay : Int) (hn : 0 ≤ now ∧ now ≤ 1099511627776) (hs : 0 ≤ seq ∧ seq ≤ 1099511627776)
    (q o n c : Nat) (ms : List Ms) (hr : Rd w 17 (.slice (some ⟨q, o, none⟩) n c) n (msgs ms)) (hq : q ≠ b ∧ q ∉ vblocks v) (hl : ms.length ≤ 100000) :
    Calls Try.prog 13 #[.pointer (some ⟨b, 0, none⟩), .int .i64 delay, .slice (some ⟨q, o, none⟩) n c] w fun e w' => e = .returned (.tuple #[]) ∧ NetR w w' b v now (sendF (now + min (max delay 0) 1048576) ms seq A).1 (sendF (now + min (max delay 0) 1048576) ms seq A).2 := by
  obtain ⟨R, hR⟩ : ∃ R, R = sendF (now + min (max delay 0) 1048576) ms seq A := ⟨_, rfl⟩
  rw [← hR]
  have hnm : n = ms.length := by have := hr.1; rw [msgs_len] at this; omega
  have hqw : ∀ wr, Ext (b :: vblocks v) w wr → ∀ k, (hk : k < ms.length) → wr.rangeAt q (o + k * 17) ms[k].cells := by
    intro wr hx k hk
    obtain ⟨q', o', he, _, hc⟩ := (hr.keep hx (by intro k hk; simp only [vblocks, List.mem_singleton] at hk; subst hk; simp [hq])).view (by omega)
    simp only [Option.some.injEq, Addr.mk.injEq, and_true] at he
    obtain ⟨rfl, rfl⟩ := he
    exact msgs_range hc k hk
  have HQ := Hid.of hqw
  have HN := Hid.of hnm
  have hn2 : n ≤ 100000 := by omega
  obtain ⟨hn0, hn1⟩ := hn
  obtain ⟨hs0, hs1⟩ := hs
  clear hqw hnm hr
  go_enter Try.func13, Try.ntmps13
  go_wp2
  go_loopw [12] (fun u12 wr => ∃ (k : Nat) (v1 : Value) (s1 : Int) (A1 : List Lt), u12 = .int .i64 (k : Int) ∧ k ≤ n ∧ Hid (NetS wr b v1 now s1 A1) ∧ Hid (Ext (b :: vblocks v) w wr) ∧ Hid (∀ k ∈ vblocks v1, k ∈ vblocks v ∨ w.heap.size ≤ k) ∧ Hid (sendF (now + min (max delay 0) 1048576) (ms.drop k) s1 A1 = R) ∧ (0 ≤ s1 ∧ s1 ≤ seq + k) ∧ Hid (A1.length ≤ 2000)) (fun u12 _ => n - (intOf u12).toNat)
  case atStart => exact ⟨0, v, seq, A, rfl, by omega, h, Ext.refl _ _, fun k hk => .inl hk, show _ = R by rw [List.drop_zero]; exact hR.symm, by omega, hA⟩
  case round =>
    obtain ⟨k, v1, s1, A1, rfl, hk, hS, hX, hV, hF, ⟨hs10, hs11⟩, hA1⟩ := hrel
    obtain ⟨L, hN, hH, hP⟩ := hS.out
    obtain ⟨c0, c1, c2⟩ := hN.c
    obtain ⟨a1, cap1, rfl⟩ := hN.form
    have bl := hN.blk.lt
    have bf := hN.blk.f 2
    by_cases hkn : k < n
    · have hkm : k < ms.length := by rw [← HN.out]; exact hkn
      have hrg := HQ.out wr hX.out k hkm
      obtain ⟨m, hm⟩ : ∃ m, m = ms[k] := ⟨_, rfl⟩
      rw [← hm] at hrg
      have HM := Hid.of hm
      have HR := Hid.of hrg
      have hLn : L.length ≤ 2000 := by rw [hP.length_eq]; exact hA1.out
      have HNt := Hid.of hN
      clear hm hrg hN
      by_cases hfull : 2000 ≤ L.length
      · go_wp2_with (first
          | (refine wpList_load_mid rfl 36 _ rfl q (o + k * 17) rfl m.cells _ HR.out Try.underlying36 rfl (by rw [mcells_len]; kernel_rfl) ?_)
          | (refine wpList_new_row rfl rfl 36 _ _ _ rfl rfl rfl rfl _ al_msg m.cells (by rw [mcells_len]; rfl) (by rw [mcells_len]; kernel_rfl) (mcells_one m) rfl rfl ?_))
        refine bodyPost_ret (results_none rfl _ _ _) rfl ?_
        have e := hF.out
        rw [sendF_full _ _ _ _ (by have := hP.length_eq; omega)] at e
        rw [← e]
        exact ⟨rfl, NetR.post ⟨hX.out, _, hS.out, hV.out⟩ ((Ext.refl [] _).alloc _)⟩
      · go_wp2_with (first
          | (refine wpList_load_mid rfl 36 _ rfl q (o + k * 17) rfl m.cells _ HR.out Try.underlying36 rfl (by rw [mcells_len]; kernel_rfl) ?_)
          | (refine wpList_new_row rfl rfl 36 _ _ _ rfl rfl rfl rfl _ al_msg m.cells (by rw [mcells_len]; rfl) (by rw [mcells_len]; kernel_rfl) (mcells_one m) rfl rfl ?_))
        obtain ⟨G, hG⟩ : ∃ x, x = wr.heap.size := ⟨_, rfl⟩
        obtain ⟨W, hW⟩ : ∃ x, x = (wr.setCell ⟨b, 2, none⟩ (.int .i64 (s1 + 1))).alloc (.cells m.cells.toArray 36) := ⟨_, rfl⟩
        have hx2 : Ext [b] wr W := by rw [hW]; exact ((Ext.refl _ _).setCell (.inl (by simp)) _).alloc _
        have hN2 : NetAt W b (.slice a1 L.length cap1) now (s1 + 1) L := by
          rw [hW]
          exact ⟨(HNt.out.blk.set 2 _).alloc _, HNt.out.own.keep (((Ext.refl [b] wr).setCell (.inl (by simp)) _).alloc _) (fun k hk => by simp [HNt.out.sep k hk]), HNt.out.sep⟩
        have hrg2 : W.rangeAt G 0 m.cells := by
          rw [hW, hG]
          have := World.rangeAt_new (wr.setCell ⟨b, 2, none⟩ (.int .i64 (s1 + 1))) m.cells 36
          rwa [World.size_setCell] at this
        rw [← hW, ← hG]
        obtain ⟨Wd, hWd⟩ : ∃ x, W.drew = x := ⟨_, rfl⟩
        have hx3 : Ext [b] wr Wd := by rw [← hWd]; exact hx2.drew
        have hN3 : NetAt Wd b (.slice a1 L.length cap1) now (s1 + 1) L := by rw [← hWd]; exact hN2.keep0 (Ext.refl [] W).drew
        have HG : Hid (Wd.rangeAt G 0 m.cells) := by rw [← hWd]; intro j v hv; exact (Ext.refl [] W).drew.cell (by simp) (hrg2 j v hv)
        have k1 := hN3.c.2.1
        have k2 := hN3.c.2.2
        have cp := hpush_any b _ now (s1 + 1) L ⟨now + min (max delay 0) 1048576, s1 + 1, m⟩ Wd hN3 (by omega)
        have HX3 := Hid.of hx3
        clear hW hG hx2 hN2 hrg2 c0 c1 c2 bl bf hx3
        refine wp_region_last [29, 30, 31, 32, 33, 34, 35, 36, 37, 38, 39, 40, 41, 42, 43, 44, 45, 46, 47, 48] (sdV b now delay s1 m) (by kernel_rfl) (by kernel_rfl) (by kernel_rfl) (by kernel_rfl) (by decide) ?_
        rw [hWd]
        refine ⟨⟨fun h => absurd h (by decide), fun _ => ?f0⟩, ⟨fun h => absurd h (by decide), fun _ => ?f1⟩, ⟨fun h => absurd h (by decide), fun _ => ?f2⟩, ⟨fun h => absurd h (by decide), fun _ => ?f3⟩, ⟨fun h => absurd h (by decide), fun _ => ?f4⟩, ⟨fun h => absurd h (by decide), fun _ => ?f5⟩, ⟨fun h => absurd h (by decide), fun _ => ?f6⟩, ⟨fun h => absurd h (by decide), fun _ => ?f7⟩, ⟨fun h => absurd h (by decide), fun _ => ?f8⟩, ⟨fun h => absurd h (by decide), fun _ => ?f9⟩, ⟨fun h => absurd h (by decide), fun _ => ?f10⟩, ⟨fun h => absurd h (by decide), fun _ => ?f11⟩, ⟨fun h => absurd h (by decide), fun _ => ?f12⟩, ⟨fun h => absurd h (by decide), fun _ => ?f13⟩, ⟨fun h => absurd h (by decide), fun _ => ?f14⟩, ⟨fun h => absurd h (by decide), fun _ => ?f15⟩, ⟨fun h => absurd h (by decide), fun _ => ?f16⟩, ⟨fun h => absurd h (by decide), fun _ => ?f17⟩, ⟨fun h => absurd h (by decide), fun _ => ?f18⟩, ⟨fun _ => ?f19, fun h => absurd rfl h⟩, trivial⟩
        case f0 =>
          intro g1 hd
          generalize hA : mkAct _ _ g1 = A
          have h0 : A.tmps[0]?.getD undef = .pointer (some ⟨b, 0, none⟩) := by rw [← hA]; exact mkAct_out2 _ _ _ _ _ rfl rfl
          refine step_val (v := .pointer (some ⟨b, 0, none⟩)) ?_ ⟨rfl, rfl⟩
          simp [execOp, h0, Result.andThen, go_sem]
        case f1 =>
          intro g1 hd
          have e29 : g1 29 = .pointer (some ⟨b, 0, none⟩) := hd ⟨0, .data⟩ (by simp) rfl
          generalize hA : mkAct _ _ g1 = A
          have h29 : A.tmps[29]?.getD undef = .pointer (some ⟨b, 0, none⟩) := by rw [← hA, mkAct_in2 _ _ _ _ rfl rfl]; exact e29
          refine step_val (v := .pointer (some ⟨b, 0, none⟩)) ?_ ⟨rfl, rfl⟩
          simp [execOp, h29, Result.andThen, go_sem]
        case f2 =>
          intro g1 hd
          have e30 : g1 30 = .pointer (some ⟨b, 0, none⟩) := hd ⟨1, .data⟩ (by simp) rfl
          generalize hA : mkAct _ _ g1 = A
          have h30 : A.tmps[30]?.getD undef = .pointer (some ⟨b, 0, none⟩) := by rw [← hA, mkAct_in2 _ _ _ _ rfl rfl]; exact e30
          refine step_val (v := .pointer (some ⟨b, 0, none⟩)) ?_ ⟨rfl, rfl⟩
          simp [execOp, h30, Result.andThen, go_sem]
        case f3 =>
          intro g1 hd
          have e31 : g1 31 = .pointer (some ⟨b, 0, none⟩) := hd ⟨2, .data⟩ (by simp) rfl
          generalize hA : mkAct _ _ g1 = A
          have h31 : A.tmps[31]?.getD undef = .pointer (some ⟨b, 0, none⟩) := by rw [← hA, mkAct_in2 _ _ _ _ rfl rfl]; exact e31
          refine step_val (v := .iface 72 (.pointer (some ⟨b, 0, none⟩))) ?_ ⟨rfl, rfl⟩
          simp [execOp, h31, Result.andThen, go_sem]
        case f4 =>
          intro g1 hd
          generalize hA : mkAct _ _ g1 = A
          have h0 : A.tmps[0]?.getD undef = .pointer (some ⟨b, 0, none⟩) := by rw [← hA]; exact mkAct_out2 _ _ _ _ _ rfl rfl
          refine step_val (v := .pointer (some ⟨b, 0, none⟩)) ?_ ⟨rfl, rfl⟩
          simp [execOp, h0, Result.andThen, go_sem]
        case f5 =>
          intro g1 hd
          have e33 : g1 33 = .pointer (some ⟨b, 0, none⟩) := hd ⟨4, .data⟩ (by simp) rfl
          generalize hA : mkAct _ _ g1 = A
          have h33 : A.tmps[33]?.getD undef = .pointer (some ⟨b, 0, none⟩) := by rw [← hA, mkAct_in2 _ _ _ _ rfl rfl]; exact e33
          refine step_val (v := .pointer (some ⟨b, 0, none⟩)) ?_ ⟨rfl, rfl⟩
          simp [execOp, h33, Result.andThen, go_sem]
        case f6 =>
          intro g1 hd
          have e34 : g1 34 = .pointer (some ⟨b, 0, none⟩) := hd ⟨5, .data⟩ (by simp) rfl
          generalize hA : mkAct _ _ g1 = A
          have h34 : A.tmps[34]?.getD undef = .pointer (some ⟨b, 0, none⟩) := by rw [← hA, mkAct_in2 _ _ _ _ rfl rfl]; exact e34
          refine step_val (v := .pointer (some ⟨b, 1, none⟩)) ?_ ⟨rfl, rfl⟩
          simp [execOp, h34, Result.andThen, go_sem]
        case f7 =>
          intro g1 hd
          have e35 : g1 35 = .pointer (some ⟨b, 1, none⟩) := hd ⟨6, .data⟩ (by simp) rfl
          generalize hA : mkAct _ _ g1 = A
          have h35 : A.tmps[35]?.getD undef = .pointer (some ⟨b, 1, none⟩) := by rw [← hA, mkAct_in2 _ _ _ _ rfl rfl]; exact e35
          refine step_val (v := .int .i64 now) ?_ ⟨rfl, rfl⟩
          simp [execOp, h35, k1, Result.andThen, go_sem]
        case f8 =>
          intro g1 hd
          generalize hA : mkAct _ _ g1 = A
          have h1 : A.tmps[1]?.getD undef = .int .i64 delay := by rw [← hA]; exact mkAct_out2 _ _ _ _ _ rfl rfl
          refine step_val (v := .int .i64 delay) ?_ ⟨rfl, rfl⟩
          simp [execOp, h1, Result.andThen, go_sem]
        case f9 =>
          intro g1 hd
          have e37 : g1 37 = .int .i64 delay := hd ⟨8, .data⟩ (by simp) rfl
          generalize hA : mkAct _ _ g1 = A
          have h37 : A.tmps[37]?.getD undef = .int .i64 delay := by rw [← hA, mkAct_in2 _ _ _ _ rfl rfl]; exact e37
          refine step_val (v := .int .i64 (max delay 0)) ?_ ⟨rfl, rfl⟩
          simp [execOp, h37, Result.andThen, go_sem]
        case f10 =>
          intro g1 hd
          have e38 : g1 38 = .int .i64 (max delay 0) := hd ⟨9, .data⟩ (by simp) rfl
          generalize hA : mkAct _ _ g1 = A
          have h38 : A.tmps[38]?.getD undef = .int .i64 (max delay 0) := by rw [← hA, mkAct_in2 _ _ _ _ rfl rfl]; exact e38
          refine step_val (v := .int .i64 (min (max delay 0) 1048576)) ?_ ⟨rfl, rfl⟩
          simp [execOp, h38, Result.andThen, go_sem]
        case f11 =>
          intro g1 hd
          have e36 : g1 36 = .int .i64 now := hd ⟨7, .data⟩ (by simp) rfl
          have e39 : g1 39 = .int .i64 (min (max delay 0) 1048576) := hd ⟨10, .data⟩ (by simp) rfl
          generalize hA : mkAct _ _ g1 = A
          have h36 : A.tmps[36]?.getD undef = .int .i64 now := by rw [← hA, mkAct_in2 _ _ _ _ rfl rfl]; exact e36
          have h39 : A.tmps[39]?.getD undef = .int .i64 (min (max delay 0) 1048576) := by rw [← hA, mkAct_in2 _ _ _ _ rfl rfl]; exact e39
          refine step_val (v := .int .i64 (now + min (max delay 0) 1048576)) ?_ ⟨rfl, rfl⟩
          simp [execOp, h36, h39, Result.andThen, go_sem]
          exact IntWalk.i64_in _ ⟨by omega, by omega⟩
        case f12 =>
          intro g1 hd
          generalize hA : mkAct _ _ g1 = A
          have h0 : A.tmps[0]?.getD undef = .pointer (some ⟨b, 0, none⟩) := by rw [← hA]; exact mkAct_out2 _ _ _ _ _ rfl rfl
          refine step_val (v := .pointer (some ⟨b, 0, none⟩)) ?_ ⟨rfl, rfl⟩
          simp [execOp, h0, Result.andThen, go_sem]
        case f13 =>
          intro g1 hd
          have e41 : g1 41 = .pointer (some ⟨b, 0, none⟩) := hd ⟨12, .data⟩ (by simp) rfl
          generalize hA : mkAct _ _ g1 = A
          have h41 : A.tmps[41]?.getD undef = .pointer (some ⟨b, 0, none⟩) := by rw [← hA, mkAct_in2 _ _ _ _ rfl rfl]; exact e41
          refine step_val (v := .pointer (some ⟨b, 0, none⟩)) ?_ ⟨rfl, rfl⟩
          simp [execOp, h41, Result.andThen, go_sem]
        case f14 =>
          intro g1 hd
          have e42 : g1 42 = .pointer (some ⟨b, 0, none⟩) := hd ⟨13, .data⟩ (by simp) rfl
          generalize hA : mkAct _ _ g1 = A
          have h42 : A.tmps[42]?.getD undef = .pointer (some ⟨b, 0, none⟩) := by rw [← hA, mkAct_in2 _ _ _ _ rfl rfl]; exact e42
          refine step_val (v := .pointer (some ⟨b, 2, none⟩)) ?_ ⟨rfl, rfl⟩
          simp [execOp, h42, Result.andThen, go_sem]
        case f15 =>
          intro g1 hd
          have e43 : g1 43 = .pointer (some ⟨b, 2, none⟩) := hd ⟨14, .data⟩ (by simp) rfl
          generalize hA : mkAct _ _ g1 = A
          have h43 : A.tmps[43]?.getD undef = .pointer (some ⟨b, 2, none⟩) := by rw [← hA, mkAct_in2 _ _ _ _ rfl rfl]; exact e43
          refine step_val (v := .int .i64 (s1 + 1)) ?_ ⟨rfl, rfl⟩
          simp [execOp, h43, k2, Result.andThen, go_sem]
        case f16 =>
          intro g1 hd
          generalize hA : mkAct _ _ g1 = A
          have h7 : A.tmps[7]?.getD undef = .pointer (some ⟨G, 0, none⟩) := by rw [← hA]; exact mkAct_out2 _ _ _ _ _ rfl rfl
          exact wp_load_mid 36 _ rfl G 0 (by simpa [Act.eval] using h7) m.cells _ HG.out Try.underlying36 rfl (by rw [mcells_len]; kernel_rfl) ⟨rfl, rfl⟩
        case f17 =>
          intro g1 hd
          have e40 : g1 40 = .int .i64 (now + min (max delay 0) 1048576) := hd ⟨11, .data⟩ (by simp) rfl
          have e44 : g1 44 = .int .i64 (s1 + 1) := hd ⟨15, .data⟩ (by simp) rfl
          have e45 : g1 45 = .agg m.cells.toArray := hd ⟨16, .data⟩ (by simp) rfl
          generalize hA : mkAct _ _ g1 = A
          have h40 : A.tmps[40]?.getD undef = .int .i64 (now + min (max delay 0) 1048576) := by rw [← hA, mkAct_in2 _ _ _ _ rfl rfl]; exact e40
          have h44 : A.tmps[44]?.getD undef = .int .i64 (s1 + 1) := by rw [← hA, mkAct_in2 _ _ _ _ rfl rfl]; exact e44
          have h45 : A.tmps[45]?.getD undef = .agg m.cells.toArray := by rw [← hA, mkAct_in2 _ _ _ _ rfl rfl]; exact e45
          refine step_val (v := .agg (Lt.cells ⟨now + min (max delay 0) 1048576, s1 + 1, m⟩).toArray) ?_ ⟨rfl, rfl⟩
          simp only [execOp, Act.eval, Array.getD_eq_getD_getElem?, List.map_toArray, List.map_cons, List.map_nil, h40, h44, h45, Sem.run_bind, bld_let, Result.andThen_ok, Sem.run_pure]
        case f18 =>
          intro g1 hd
          have e46 : g1 46 = .agg (Lt.cells ⟨now + min (max delay 0) 1048576, s1 + 1, m⟩).toArray := hd ⟨17, .data⟩ (by simp) rfl
          generalize hA : mkAct _ _ g1 = A
          have h46 : A.tmps[46]?.getD undef = .agg (Lt.cells ⟨now + min (max delay 0) 1048576, s1 + 1, m⟩).toArray := by rw [← hA, mkAct_in2 _ _ _ _ rfl rfl]; exact e46
          refine step_val (v := .iface 74 (.agg (Lt.cells ⟨now + min (max delay 0) 1048576, s1 + 1, m⟩).toArray)) ?_ ⟨rfl, rfl⟩
          simp [execOp, h46, Result.andThen, go_sem]
        case f19 =>
          intro g1 hd
          have e32 : g1 32 = .iface 72 (.pointer (some ⟨b, 0, none⟩)) := hd 3 _ rfl (by decide) rfl
          have e47 : g1 47 = .iface 74 (.agg (Lt.cells ⟨now + min (max delay 0) 1048576, s1 + 1, m⟩).toArray) := hd 18 _ rfl (by decide) rfl
          generalize hA : mkAct _ _ g1 = A
          have h32 : A.tmps[32]?.getD undef = .iface 72 (.pointer (some ⟨b, 0, none⟩)) := by rw [← hA, mkAct_in2 _ _ _ _ rfl rfl]; exact e32
          have h47 : A.tmps[47]?.getD undef = .iface 74 (.agg (Lt.cells ⟨now + min (max delay 0) 1048576, s1 + 1, m⟩).toArray) := by rw [← hA, mkAct_in2 _ _ _ _ rfl rfl]; exact e47
          refine last_call (d := 48) rfl (Post := fun v w' => v = .tuple #[] ∧ NetTo Wd w' b (.slice a1 L.length cap1) now (s1 + 1) (pushL ltL ⟨now + min (max delay 0) 1048576, s1 + 1, m⟩ L)) (fun K hK => ?_) ?_
          · go_simp
            refine cp.mono ?_
            rintro e w5 ⟨rfl, h5⟩
            exact hK _ _ ⟨rfl, h5⟩
          · rintro v5 w5 ⟨rfl, h5⟩
            rw [← hA, mkAct_put]
            rotate_left
            · rfl
            have H5 := Hid.of h5
            clear h5 h32 h47 e32 e47 hd k1 k2 cp hA
            unfold mkAct
            simp only [List.zipIdx_cons, List.zipIdx_nil, List.map_cons, List.map_nil, Nat.zero_add, Nat.reduceAdd, List.contains_cons, List.contains_nil, Nat.reduceBEq, Bool.or_false, Bool.or_true, ↓reduceIte, Bool.false_eq_true]
            go_wp2
            go_roundw
            case rel =>
              have hA' : A1.length < 2000 := by have := hP.length_eq; omega
              obtain ⟨h6, v6, h7, h8⟩ := NetTo.r H5.out (pushL_heap ltL ltL_ord _ hH) ((pushL_perm ltL _ L).trans (hP.append_right _))
              have hsz := HX3.out.size
              refine ⟨k + 1, v6, s1 + 1, A1 ++ [⟨now + min (max delay 0) 1048576, s1 + 1, m⟩], by congr 1, by omega, Hid.of h7, ?_, ?_, ?_, by omega, ?_⟩
              · refine (hX.out.trans (HX3.out.mono (G := b :: vblocks v) (fun k hk => .inl (by simp at hk; simp [hk]))) (fun k hk => .inl hk)).trans h6 (fun k hk => ?_)
                rcases List.mem_cons.1 hk with rfl | hk
                · exact .inl (by simp)
                · exact (hV.out k hk).imp_left fun h => List.mem_cons_of_mem _ h
              · intro k hk
                rcases h8 k hk with h | h
                · exact hV.out k h
                · have := hX.out.size; exact .inr (by omega)
              · show _ = R
                rw [← hF.out, List.drop_eq_getElem_cons hkm, sendF, if_neg (by omega), ← HM.out]
              · show _ ≤ 2000
                simp; omega
            case measure => simp [intOf]; omega
    · go_wp2
      go_end0
      have e := hF.out
      rw [List.drop_eq_nil_of_le (by have := HN.out; omega), sendF] at e
      rw [← e]
      exact ⟨rfl, hX.out, _, hS.out, hV.out⟩
end Go.Proofs.Ytaekkkcgoegllaa
