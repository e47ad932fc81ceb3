/- Law 14, MsgTurned. (Printed by wip/gen_mturned.py.) -/
import Derived.Test.YtaekkkcgoegllaaLawMreads
import Derived.Test.YtaekkkcgoegllaaBits
namespace Go.Proofs.Ytaekkkcgoegllaa
open Go.RowKit
set_option linter.unusedVariables false
set_option linter.unusedSimpArgs false
attribute [local go_sem] i64_and65535

theorem xor_ne8 {x b : UInt8} (hb : b ≠ 0) : x ^^^ b ≠ x := by
  intro h
  apply hb
  have : x ^^^ (x ^^^ b) = x ^^^ x := by rw [h]
  rw [← UInt8.xor_assoc, UInt8.xor_self, UInt8.zero_xor] at this
  exact this
theorem set_ne8 {l : List UInt8} {z : Nat} (hz : z < l.length) {b : UInt8} (hb : b ≠ 0) : l.set z (l[z] ^^^ b) ≠ l := by
  intro h
  have h2 : (l.set z (l[z] ^^^ b))[z]? = l[z]? := by rw [h]
  rw [List.getElem?_set_self hz, List.getElem?_eq_getElem hz] at h2
  exact xor_ne8 hb (Option.some.inj h2)
theorem encM_pos (m : Ms) (es : List En) (ss : List UInt32) : 0 < (encM m es ss).length := by
  unfold encM encV
  rw [List.length_append, encNum_length]
  omega
set_option maxRecDepth 100000 in
set_option maxHeartbeats 25600000 in
theorem mturned_any {w : World} (m : Ms) (hok : MsOk w m) (at_ : Int) (hat : -9223372036854775808 ≤ at_ ∧ at_ ≤ 9223372036854775807) (bt : UInt8) : Calls Try.prog 11 #[.agg m.cells.toArray, .int .i64 at_, .int .u8 (bt.toNat : Int)] w fun e w' => e = .returned (.bool true) ∧ Ext [] w w' := by
  obtain ⟨es, ss, hat0⟩ := hok
  obtain ⟨P, hP⟩ : ∃ G, G = w.heap.size := ⟨_, rfl⟩
  obtain ⟨W, hW⟩ : ∃ W, W = w.alloc (.cells m.cells.toArray 36) := ⟨_, rfl⟩
  have hB : Blk W P 36 m.cells := by rw [hW, hP]; exact Blk.new _ _ _
  have hxW : Ext [] w W := by rw [hW]; exact (Ext.refl _ _).alloc _
  have HAt := Hid.of (hat0.keep0 hxW)
  have ch := mhead_any W
  have HXW := Hid.of hxW
  have HB := Hid.of hB
  go_enter Try.func11, Try.ntmps11
  go_upto_region 1 with fail
  rw [← hW, ← hP]
  clear hW hP hB hxW hat0
  by_cases hf : FewM m es ss
  · have hfd : Hid (decide (FewM m es ss) = true) := Hid.of (decide_eq_true hf)
    have HFM := Hid.of hf
    clear hf
    by_cases hr : RightM m es ss
    · have hrd : Hid (decide (RightM m es ss) = true) := Hid.of (decide_eq_true hr)
      have HR := Hid.of hr
      clear hr
      by_cases hb : bt = 0
      · subst hb
        go_wp2_with (first
          | (go_at_call 19; (with_reducible refine ch.mono ?_); rintro e w1 ⟨rfl, hx1⟩; have HX1 := Hid.of (HXW.out.then0 hx1); have HR1 := Hid.of (HB.out.keep hx1 (by simp)).range; have HB1 := Hid.of (HB.out.keep hx1 (by simp)); have hat1 := (HAt.out.keep0 hx1); have cf := few_any m es ss w1 hat1; rw [hfd.out] at cf; have HA1 := Hid.of hat1; clear hx1 ch hat1)
          | (refine wpList_load_mid rfl 36 _ rfl P 0 rfl m.cells _ HR1.out Try.underlying36 rfl (by rw [mcells_len]; kernel_rfl) ?_)
          | (go_at_call 20; (with_reducible refine cf.mono ?_); rintro e w2 ⟨rfl, hx2⟩; have HX2 := Hid.of (HX1.out.then0 hx2); have HR2 := Hid.of (HB1.out.keep hx2 (by simp)).range; have HB2 := Hid.of (HB1.out.keep hx2 (by simp)); have hat2 := (HA1.out.keep0 hx2); have cl := lright_any m es ss w2 hat2; rw [hrd.out] at cl; have HA2 := Hid.of hat2; clear hx2 cf hat2)
          | (refine wpList_load_row_g (by first | rfl | (simp [Region.wanted, yielded]; done)) 36 _ rfl P 0 rfl m.cells _ HR2.out Try.underlying36 rfl (by rw [mcells_len]; kernel_rfl) ?_)
          | (go_at_call 23; (with_reducible refine cl.mono ?_); rintro e w3 ⟨rfl, hx3⟩; have HX3 := Hid.of (HX2.out.then0 hx3); have HB3 := Hid.of (HB2.out.keep hx3 (by simp)); have HR3 := Hid.of (HB2.out.keep hx3 (by simp)).range; have HA3 := Hid.of (HA2.out.keep0 hx3); clear hx3 cl))
        go_ret
        exact ⟨rfl, HX3.out⟩
      · have hbz : ((bt.toNat : Int) == 0) = false := by
          simp only [beq_eq_false_iff_ne, ne_eq]
          intro h
          exact hb (UInt8.toNat_inj.1 (by show bt.toNat = 0; omega))
        have hbt := bt.toNat_lt
        obtain ⟨S, hS⟩ : ∃ S, S = encM m es ss := ⟨_, rfl⟩
        have HS := Hid.of hS
        have hlen : S.length ≤ 5000 := by rw [hS]; exact encV_length ((okV_mv m es ss).1 HR.out).1
        have hpos : 0 < S.length := by rw [hS]; exact encM_pos m es ss
        have cb0 := fun w' (h : MsAt w' m es ss) => bytes_any m es ss w' h (by have := HFM.out.2.1; omega)
        rw [if_pos HR.out, ← hS] at cb0
        have HNB := Hid.of hb
        clear hS hb
        go_wp2_with (first
          | (go_at_call 19; (with_reducible refine ch.mono ?_); rintro e w1 ⟨rfl, hx1⟩; have HX1 := Hid.of (HXW.out.then0 hx1); have HR1 := Hid.of (HB.out.keep hx1 (by simp)).range; have HB1 := Hid.of (HB.out.keep hx1 (by simp)); have hat1 := (HAt.out.keep0 hx1); have cf := few_any m es ss w1 hat1; rw [hfd.out] at cf; have HA1 := Hid.of hat1; clear hx1 ch hat1)
          | (refine wpList_load_mid rfl 36 _ rfl P 0 rfl m.cells _ HR1.out Try.underlying36 rfl (by rw [mcells_len]; kernel_rfl) ?_)
          | (go_at_call 20; (with_reducible refine cf.mono ?_); rintro e w2 ⟨rfl, hx2⟩; have HX2 := Hid.of (HX1.out.then0 hx2); have HR2 := Hid.of (HB1.out.keep hx2 (by simp)).range; have HB2 := Hid.of (HB1.out.keep hx2 (by simp)); have hat2 := (HA1.out.keep0 hx2); have cl := lright_any m es ss w2 hat2; rw [hrd.out] at cl; have HA2 := Hid.of hat2; clear hx2 cf hat2)
          | (refine wpList_load_row_g (by first | rfl | (simp [Region.wanted, yielded]; done)) 36 _ rfl P 0 rfl m.cells _ HR2.out Try.underlying36 rfl (by rw [mcells_len]; kernel_rfl) ?_)
          | (go_at_call 23; (with_reducible refine cl.mono ?_); rintro e w3 ⟨rfl, hx3⟩; have HX3 := Hid.of (HX2.out.then0 hx3); have HB3 := Hid.of (HB2.out.keep hx3 (by simp)); have HR3 := Hid.of (HB2.out.keep hx3 (by simp)).range; have HA3 := Hid.of (HA2.out.keep0 hx3); clear hx3 cl; have cb := cb0 w3 HA3.out; clear cb0)
          | (refine wpList_load_mid rfl 36 _ rfl P 0 rfl m.cells _ HR3.out Try.underlying36 rfl (by rw [mcells_len]; kernel_rfl) ?_)
          | (go_at_call 21; (with_reducible refine cb.mono ?_); rintro e w4 ⟨rfl, hx4⟩; have HX4 := Hid.of (HX3.out.then0 hx4); have HB4 := Hid.of (HB3.out.keep hx4 (by simp)); have HA4 := Hid.of (HA3.out.keep0 hx4); clear hx4 cb)
          | ((with_reducible refine wpl_bytes (d := some 36) 5 Try.underlying9 Try.underlying57 Try.underlying5 ⟨S.toArray⟩ ?_ ?_ ?_)))
        · rfl
        · show S.length ≤ _; unfold maxLen; omega
        intro cp w5 ho hx5 hsz
        have ho' : Own w5 5 1 (.slice (some ⟨w4.heap.size, 0, none⟩) S.length cp) S.length (bcells S) := ho
        have hx5s : ∀ j v, Ext [] w4 (w5.setCell ⟨w4.heap.size, j, none⟩ v) := fun j v => hx5.setCell (.inr (Nat.le_refl _)) v
        have HX5S := Hid.of hx5s
        clear ho hx5 hx5s
        obtain ⟨g, hgg⟩ : ∃ g, g = w4.heap.size := ⟨_, rfl⟩
        rw [← hgg] at ho' hsz HX5S ⊢
        clear hgg
        obtain ⟨c, hcc⟩ : ∃ c : Nat, at_ % 65536 = (c : Int) := ⟨(at_ % 65536).toNat, by omega⟩
        have hz1 : c % S.length < S.length := Nat.mod_lt c hpos
        obtain ⟨z, hz⟩ : ∃ z, c % S.length = z := ⟨_, rfl⟩
        rw [hz] at hz1
        have hcz : (c : Int) % (S.length : Int) = (z : Int) := by rw [← hz, Int.natCast_emod]
        have hcn : 0 ≤ (c : Int) := by omega
        obtain ⟨T, hT⟩ : ∃ T, T = S.set z (S[z] ^^^ bt) := ⟨_, rfl⟩
        have hTl : T.length = S.length := by rw [hT, List.length_set]
        have HNT : Hid (T ≠ encM m es ss) := Hid.of (by rw [hT, ← HS.out]; exact set_ne8 hz1 HNB.out)
        have hc0 := ho'.cell z (by omega)
        have hf0 := ho'.frozen z (by omega)
        have hst := ho'.store z (.int .u8 ((S[z] ^^^ bt).toNat : Int)) (by omega)
        rw [Nat.zero_add] at hc0 hf0 hst
        rw [bcells, List.getElem?_map, List.getElem?_eq_getElem hz1, Option.map_some] at hc0
        have hbs : (bcells S).set z (.int .u8 ((S[z] ^^^ bt).toNat : Int)) = bcells T := by
          rw [hT, bcells, bcells, List.map_set]
        rw [hbs] at hst
        have hx8 := b8_xor S[z] bt
        obtain ⟨y, hy⟩ : ∃ y, y = S[z] := ⟨_, rfl⟩
        rw [← hy] at hc0 hst hx8
        rw [UInt8.toNat_xor] at hst hx8
        obtain ⟨W6, hW6⟩ : ∃ W, W = w5.setCell ⟨g, z, none⟩ (.int .u8 ((y.toNat ^^^ bt.toNat : Nat) : Int)) := ⟨_, rfl⟩
        have HW6 := Hid.of hW6
        have hx6 : Ext [] w4 W6 := by rw [hW6]; exact HX5S.out _ _
        rw [← hW6] at hst
        have HA6 := Hid.of (HA4.out.keep0 hx6)
        have HB6 := Hid.of (HB4.out.keep hx6 (by simp))
        have HX6 := Hid.of (HX4.out.then0 hx6)
        have hO6 : OwnB W6 (.slice (some ⟨g, 0, none⟩) S.length cp) T := by unfold OwnB; rw [hTl]; exact hst
        have HO6 := Hid.of hO6
        have hcv := hO6.str
        have cr := mread_all T W6 (by omega)
        rw [hW6] at hcv cr
        clear hz hT hbs hy hst ho' hW6 hx6 hO6 hsz
        go_wp2_with fail
        refine cr.mono ?_
        rw [← HW6.out]
        clear cr hcv hc0 hf0 hx8
        rintro e w7 ⟨hx7, ⟨x, xe, xs, hxr, hTe, rfl, hxa⟩ | ⟨_, rfl⟩⟩
        · have HX8 := Hid.of ((HX6.out.then0 hx7).alloc (.cells x.cells.toArray 36))
          have hxa8 := hxa.keep0 ((Ext.refl [] w7).alloc (.cells x.cells.toArray 36))
          have hb8 := Blk.new w7 36 x.cells.toArray
          have HRX8 := Hid.of hb8.range
          have HBX8 := Hid.of hb8
          have HXA8 := Hid.of hxa8
          have h78 : Ext [] W6 (w7.alloc (.cells x.cells.toArray 36)) := hx7.alloc _
          have HB8 := Hid.of (HB6.out.keep h78 (by simp))
          have HA8 := Hid.of (HA6.out.keep0 h78)
          have HO8 := Hid.of (HO6.out.keep h78 (by simp))
          have cb := bytes_any x xe xs _ hxa8 (few_of_right hxr)
          rw [if_pos hxr, ← hTe] at cb
          have HXR := Hid.of hxr
          have HNE : Hid (mv x xe xs ≠ mv m es ss) := Hid.of (fun h => HNT.out (by rw [hTe]; unfold encM; rw [h]))
          have hPl := HB6.out.lt
          have hP7 := hx7.size
          clear hx7 hxr hTe hxa hxa8 hb8 h78
          go_wp2_with (first
            | (refine wpList_new_row rfl rfl 36 _ _ _ rfl rfl rfl rfl _ al_msg x.cells rfl (by kernel_rfl) (mcells_one _) rfl rfl ?_)
            | (refine wpList_load_mid rfl 36 _ rfl w7.heap.size 0 rfl x.cells _ HRX8.out Try.underlying36 rfl (by rw [mcells_len]; kernel_rfl) ?_)
            | (go_at_call 21; (with_reducible refine cb.mono ?_); rintro e w9 ⟨rfl, hx9⟩; have HX9 := Hid.of (HX8.out.then0 hx9); have HRX9 := Hid.of (HBX8.out.keep hx9 (by simp)).range; have HR9 := Hid.of (HB8.out.keep hx9 (by simp)).range; have hO9 := HO8.out.keep hx9 (by simp); have hcv := hO9.str; have cs := same_m x m xe es xs ss _ (HXA8.out.keep0 hx9) (HA8.out.keep0 hx9) HXR.out HR.out; rw [sameB_false HNE.out] at cs; clear hx9 hO9 cb)
            | (refine wpList_load_row_g (by first | rfl | (simp [Region.wanted, yielded]; done)) 36 _ rfl w7.heap.size 0 rfl x.cells _ HRX9.out Try.underlying36 rfl (by rw [mcells_len]; kernel_rfl) ?_)
            | (refine wpList_load_row_g (by first | rfl | (simp [Region.wanted, yielded]; done)) 36 _ rfl P 0 rfl m.cells _ HR9.out Try.underlying36 rfl (by rw [mcells_len]; kernel_rfl) ?_)
            | (go_at_call 28; (with_reducible refine cs.mono ?_); rintro e w10 ⟨rfl, hx10⟩; have HX10 := Hid.of (HX9.out.then0 hx10); clear hx10 cs hcv))
          go_ret
          exact ⟨rfl, HX10.out⟩
        · have HX8 := Hid.of ((HX6.out.then0 hx7).alloc (.cells Ms.zero.cells.toArray 36))
          have hb8 := Blk.new w7 36 Ms.zero.cells.toArray
          have c0 : (w7.alloc (.cells Ms.zero.cells.toArray 36)).cell? ⟨w7.heap.size, 0, none⟩ = some (.int .i64 0) := hb8.c 0
          clear hx7 hb8
          go_wp2_with (first
            | (refine wpList_new_row rfl rfl 36 _ _ _ rfl rfl rfl rfl _ al_msg Ms.zero.cells rfl (by kernel_rfl) (mcells_one _) rfl rfl ?_))
          go_ret
          exact ⟨rfl, HX8.out⟩
    · have hrd : Hid (decide (RightM m es ss) = false) := Hid.of (decide_eq_false hr)
      clear hr
      go_wp2_with (first
        | (go_at_call 19; (with_reducible refine ch.mono ?_); rintro e w1 ⟨rfl, hx1⟩; have HX1 := Hid.of (HXW.out.then0 hx1); have HR1 := Hid.of (HB.out.keep hx1 (by simp)).range; have HB1 := Hid.of (HB.out.keep hx1 (by simp)); have hat1 := (HAt.out.keep0 hx1); have cf := few_any m es ss w1 hat1; rw [hfd.out] at cf; have HA1 := Hid.of hat1; clear hx1 ch hat1)
        | (refine wpList_load_mid rfl 36 _ rfl P 0 rfl m.cells _ HR1.out Try.underlying36 rfl (by rw [mcells_len]; kernel_rfl) ?_)
        | (go_at_call 20; (with_reducible refine cf.mono ?_); rintro e w2 ⟨rfl, hx2⟩; have HX2 := Hid.of (HX1.out.then0 hx2); have HR2 := Hid.of (HB1.out.keep hx2 (by simp)).range; have HB2 := Hid.of (HB1.out.keep hx2 (by simp)); have hat2 := (HA1.out.keep0 hx2); have cl := lright_any m es ss w2 hat2; rw [hrd.out] at cl; have HA2 := Hid.of hat2; clear hx2 cf hat2)
        | (refine wpList_load_row_g (by first | rfl | (simp [Region.wanted, yielded]; done)) 36 _ rfl P 0 rfl m.cells _ HR2.out Try.underlying36 rfl (by rw [mcells_len]; kernel_rfl) ?_)
        | (go_at_call 23; (with_reducible refine cl.mono ?_); rintro e w3 ⟨rfl, hx3⟩; have HX3 := Hid.of (HX2.out.then0 hx3); clear hx3 cl))
      go_ret
      exact ⟨rfl, HX3.out⟩
  · have hfd : Hid (decide (FewM m es ss) = false) := Hid.of (decide_eq_false hf)
    clear hf
    go_wp2_with (first
      | (go_at_call 19; (with_reducible refine ch.mono ?_); rintro e w1 ⟨rfl, hx1⟩; have HX1 := Hid.of (HXW.out.then0 hx1); have HR1 := Hid.of (HB.out.keep hx1 (by simp)).range; have HB1 := Hid.of (HB.out.keep hx1 (by simp)); have hat1 := (HAt.out.keep0 hx1); have cf := few_any m es ss w1 hat1; rw [hfd.out] at cf; have HA1 := Hid.of hat1; clear hx1 ch hat1)
      | (refine wpList_load_mid rfl 36 _ rfl P 0 rfl m.cells _ HR1.out Try.underlying36 rfl (by rw [mcells_len]; kernel_rfl) ?_)
      | (go_at_call 20; (with_reducible refine cf.mono ?_); rintro e w2 ⟨rfl, hx2⟩; have HX2 := Hid.of (HX1.out.then0 hx2); clear hx2 cf))
    go_ret
    exact ⟨rfl, HX2.out⟩
end Go.Proofs.Ytaekkkcgoegllaa
