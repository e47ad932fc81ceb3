/- Law 14: its helpers right and Few. -/
import Derived.Test.YtaekkkcgoegllaaMsge
namespace Go.Proofs.Ytaekkkcgoegllaa
open Go.RowKit
set_option linter.unusedVariables false
set_option linter.unusedSimpArgs false

theorem okn_yes {n : Int} (h : R48 n) (w : World) : Calls Try.prog 33 #[.int .i64 n] w fun e w' => e = .returned (.bool true) ∧ w = w' := by
  have h1 : 0 ≤ n := h.1
  have h2 : n ≤ 281474976710655 := h.2
  clear h
  go_enter Try.func33, Try.ntmps33
  go_wp2
  go_ret
  exact ⟨rfl, rfl⟩
theorem okn_no {n : Int} (h : ¬ R48 n) (w : World) : Calls Try.prog 33 #[.int .i64 n] w fun e w' => e = .returned (.bool false) ∧ w = w' := by
  go_enter Try.func33, Try.ntmps33
  by_cases h1 : 0 ≤ n
  · have h2 : ¬ n ≤ 281474976710655 := fun h2 => h ⟨h1, h2⟩
    clear h
    go_wp2
    go_ret
    exact ⟨rfl, rfl⟩
  · clear h
    go_wp2
    go_ret
    exact ⟨rfl, rfl⟩
/-- Few entries, of few bytes. -/
def FewM (m : Ms) (es : List En) (ss : List UInt32) : Prop := (∀ e ∈ es, e.data.length ≤ 600) ∧ es.length ≤ 8 ∧ ss.length ≤ 80 ∧ m.data.length ≤ 600
instance (m : Ms) (es : List En) (ss : List UInt32) : Decidable (FewM m es ss) := inferInstanceAs (Decidable (_ ∧ _ ∧ _ ∧ _))
set_option maxRecDepth 100000 in
set_option maxHeartbeats 6400000 in
theorem few_any (m : Ms) (es : List En) (ss : List UInt32) (w : World) (h : MsAt w m es ss) :
    Calls Try.prog 20 #[.agg m.cells.toArray] w fun e w' => e = .returned (.bool (decide (FewM m es ss))) ∧ Ext [] w w' := by
  have hln : es.length = m.en := by have := h.ents.len; have e3 := flatMap_len En.cells 3 ecells_len es; rw [e3] at this; omega
  have hls : ss.length = m.sn := by have := h.sums.len; simp [u32s] at this; omega
  have hent := h.ents.ent
  have hdl := h.data
  have hed : ∀ e ∈ es, e.data.length ≤ maxLen := fun e he => (h.entsok e he).2.2
  have hlm : m.en ≤ 9223372036854775807 := by have := h.ents.len; unfold maxLen at this; omega
  obtain ⟨G, hG⟩ : ∃ G, G = w.heap.size := ⟨_, rfl⟩
  obtain ⟨W, hW⟩ : ∃ W, W = w.alloc (.cells m.cells.toArray 36) := ⟨_, rfl⟩
  have hB : Blk W G 36 m.cells := by rw [hW, hG]; exact Blk.new _ _ _
  have hxW : Ext [] w W := by rw [hW]; exact (Ext.refl _ _).alloc _
  go_enter Try.func20, Try.ntmps20
  go_upto_region 1 with fail
  rw [← hW, ← hG]
  have b8 : W.cell? ⟨G, 8, none⟩ = some (.slice m.ea m.en m.ec) := hB.c 8
  have HXW := Hid.of hxW
  have HB := Hid.of hB
  have HE := Hid.of hent
  have HED := Hid.of hed
  have HLN := Hid.of hln
  have HLS := Hid.of hls
  have HDL := Hid.of hdl
  clear hW hG hxW hB hent hed hln hls h hdl
  go_wp2
  go_loopw [8] (fun u8 wr => ∃ (k : Nat), u8 = .int .i64 (k : Int) ∧ k ≤ m.en ∧ Hid (Ext [] W wr) ∧ Hid (∀ e ∈ es.take k, e.data.length ≤ 600)) (fun u8 _ => m.en - (intOf u8).toNat)
  case atStart => exact ⟨0, rfl, by omega, Ext.refl _ _, by simp [Hid]⟩
  case round =>
    obtain ⟨k, rfl, hk, hX, hD⟩ := hrel
    by_cases hlt : k < m.en
    · have hkm : k < es.length := by rw [HLN.out]; exact hlt
      obtain ⟨q, off, hea, hc⟩ := HE.out k hkm
      obtain ⟨x, hx⟩ : ∃ x, x = es[k] := ⟨_, rfl⟩
      rw [← hx] at hc
      obtain ⟨d0, d1, d2⟩ := hc wr (HXW.out.then0 hX.out)
      have hxl := HED.out x (by rw [hx]; exact List.getElem_mem _)
      have HXE := Hid.of hx
      rw [hea]
      clear hx hc
      obtain ⟨xi, xt, xd⟩ := x
      simp only at d0 d1 d2 hxl
      by_cases hbig : 600 < xd.length
      · go_wp2
        go_ret
        have HF : decide (FewM m es ss) = false := decide_eq_false (fun hR => by
          have := hR.1 _ (List.getElem_mem hkm)
          rw [← HXE.out] at this
          have : xd.length ≤ 600 := this
          omega)
        rw [HF]
        exact ⟨rfl, (HXW.out.then0 hX.out).alloc _⟩
      · go_wp2
        refine ⟨⟨k + 1, by congr 1, by omega, hX.out.alloc _, ?_⟩, by simp [intOf]; omega⟩
        show ∀ e ∈ _, _
        intro e he
        rw [List.take_add_one, List.getElem?_eq_getElem hkm, ← HXE.out] at he
        rcases List.mem_append.1 he with he | he
        · exact hD.out e he
        · simp at he; subst he; show xd.length ≤ 600; omega
    · obtain rfl : k = m.en := by omega
      have hBr := HB.out.keep hX.out (by simp)
      have f8 : wr.cell? ⟨G, 8, none⟩ = some (.slice m.ea m.en m.ec) := hBr.c 8
      have f14 : wr.cell? ⟨G, 14, none⟩ = some (.slice m.sa m.sn m.sc) := hBr.c 14
      have f16 : wr.cell? ⟨G, 16, none⟩ = some (str m.data) := hBr.c 16
      have hxf := Hid.of (HXW.out.then0 hX.out)
      have hD2 := hD.out
      rw [List.take_of_length_le (by have := HLN.out; omega)] at hD2
      have HD2 := Hid.of hD2
      clear hBr hX hD hD2
      have HR : Hid (FewM m es ss ↔ (m.en ≤ 8 ∧ m.sn ≤ 80 ∧ m.data.length ≤ 600)) :=
        Hid.of ⟨fun h => ⟨by have := h.2.1; have := HLN.out; omega, by have := h.2.2.1; have := HLS.out; omega, h.2.2.2⟩, fun h => ⟨HD2.out, by have := HLN.out; omega, by have := HLS.out; omega, h.2.2⟩⟩
      go_wp2
      all_goals (
        go_ret
        refine ⟨?_, hxf.out⟩
        first
          | (rw [decide_eq_false (fun h => by have := HR.out.1 h; omega)]; rfl)
          | (have e7 : decide ((m.data.length : Int) ≤ 600) = decide (FewM m es ss) := by
               apply decide_eq_decide.2
               rw [HR.out]
               omega
             rw [← e7]; rfl))
set_option maxRecDepth 100000 in
set_option maxHeartbeats 12800000 in
theorem lright_any (m : Ms) (es : List En) (ss : List UInt32) (w : World) (h : MsAt w m es ss) :
    Calls Try.prog 23 #[.agg m.cells.toArray] w fun e w' => e = .returned (.bool (decide (RightM m es ss))) ∧ Ext [] w w' := by
  have hln : es.length = m.en := by have := h.ents.len; have e3 := flatMap_len En.cells 3 ecells_len es; rw [e3] at this; omega
  have hls : ss.length = m.sn := by have := h.sums.len; simp [u32s] at this; omega
  have hent := h.ents.ent
  have hdl := h.data
  have hed : ∀ e ∈ es, e.data.length ≤ maxLen := fun e he => (h.entsok e he).2.2
  have hlm : m.en ≤ 9223372036854775807 := by have := h.ents.len; unfold maxLen at this; omega
  obtain ⟨G, hG⟩ : ∃ G, G = w.heap.size := ⟨_, rfl⟩
  obtain ⟨W, hW⟩ : ∃ W, W = w.alloc (.cells m.cells.toArray 36) := ⟨_, rfl⟩
  have hB : Blk W G 36 m.cells := by rw [hW, hG]; exact Blk.new _ _ _
  have hxW : Ext [] w W := by rw [hW]; exact (Ext.refl _ _).alloc _
  go_enter Try.func23, Try.ntmps23
  go_upto_region 2 with fail
  rw [← hW, ← hG]
  have b8 : W.cell? ⟨G, 8, none⟩ = some (.slice m.ea m.en m.ec) := hB.c 8
  have HXW := Hid.of hxW
  have HB := Hid.of hB
  have HE := Hid.of hent
  have HED := Hid.of hed
  have HLN := Hid.of hln
  have HLS := Hid.of hls
  have HDL := Hid.of hdl
  clear hW hG hxW hB hent hed hln hls h hdl
  go_wp2
  go_loopw [11] (fun u11 wr => ∃ (k : Nat), u11 = .int .i64 (k : Int) ∧ k ≤ m.en ∧ Hid (Ext [] W wr) ∧ Hid (∀ e ∈ es.take k, e.right)) (fun u11 _ => m.en - (intOf u11).toNat)
  case atStart => exact ⟨0, rfl, by omega, Ext.refl _ _, by simp [Hid]⟩
  case round =>
    obtain ⟨k, rfl, hk, hX, hD⟩ := hrel
    by_cases hlt : k < m.en
    · have hkm : k < es.length := by rw [HLN.out]; exact hlt
      obtain ⟨q, off, hea, hc⟩ := HE.out k hkm
      obtain ⟨x, hx⟩ : ∃ x, x = es[k] := ⟨_, rfl⟩
      rw [← hx] at hc
      obtain ⟨d0, d1, d2⟩ := hc wr (HXW.out.then0 hX.out)
      have hxl := HED.out x (by rw [hx]; exact List.getElem_mem _)
      have HXE := Hid.of hx
      rw [hea]
      clear hx hc
      have HF : Hid (¬ x.right → decide (RightM m es ss) = false) := Hid.of fun hn => decide_eq_false (fun hR => hn (by
          have := hR.2.2.1 _ (List.getElem_mem hkm)
          rw [← HXE.out] at this
          exact this))
      obtain ⟨xi, xt, xd⟩ := x
      simp only at d0 d1 d2 hxl
      by_cases hbig : 488 < xd.length
      · go_wp2
        go_ret
        rw [HF.out (fun h => by have : xd.length ≤ 488 := h.2.2; omega)]
        exact ⟨rfl, (HXW.out.then0 hX.out).alloc _⟩
      · by_cases h1 : R48 xi
        · by_cases h2 : R48 xt
          · have c1 := okn_yes h1
            have c2 := okn_yes h2
            have H1 := Hid.of h1
            have H2 := Hid.of h2
            clear h1 h2
            go_wp2_with (first
              | (go_at_call 33; (with_reducible refine (c1 _).mono ?_); rintro e w2 ⟨rfl, rfl⟩; clear c1)
              | (go_at_call 33; (with_reducible refine (c2 _).mono ?_); rintro e w3 ⟨rfl, rfl⟩; clear c2))
            refine ⟨⟨k + 1, by congr 1, by omega, hX.out.alloc _, ?_⟩, by simp [intOf]; omega⟩
            show ∀ e ∈ _, _
            intro e he
            rw [List.take_add_one, List.getElem?_eq_getElem hkm, ← HXE.out] at he
            rcases List.mem_append.1 he with he | he
            · exact hD.out e he
            · simp at he; subst he; exact ⟨H1.out, H2.out, by show xd.length ≤ 488; omega⟩
          · have c1 := okn_yes h1
            have c2 := okn_no h2
            have H2 := Hid.of h2
            clear h1 h2
            go_wp2_with (first
              | (go_at_call 33; (with_reducible refine (c1 _).mono ?_); rintro e w2 ⟨rfl, rfl⟩; clear c1)
              | (go_at_call 33; (with_reducible refine (c2 _).mono ?_); rintro e w3 ⟨rfl, rfl⟩; clear c2))
            go_ret
            rw [HF.out (fun h => H2.out h.2.1)]
            exact ⟨rfl, (HXW.out.then0 hX.out).alloc _⟩
        · have c1 := okn_no h1
          have H1 := Hid.of h1
          clear h1
          go_wp2_with (first
            | (go_at_call 33; (with_reducible refine (c1 _).mono ?_); rintro e w2 ⟨rfl, rfl⟩; clear c1))
          go_ret
          rw [HF.out (fun h => H1.out h.1)]
          exact ⟨rfl, (HXW.out.then0 hX.out).alloc _⟩
    · obtain rfl : k = m.en := by omega
      obtain ⟨V, hV⟩ : ∃ V, V = wr := ⟨_, rfl⟩
      subst hV
      have hBr := HB.out.keep hX.out (by simp)
      have f1 : V.cell? ⟨G, 1, none⟩ = some (.int .i64 m.frm) := hBr.c 1
      have f2 : V.cell? ⟨G, 2, none⟩ = some (.int .i64 m.too) := hBr.c 2
      have f3 : V.cell? ⟨G, 3, none⟩ = some (.int .i64 m.term) := hBr.c 3
      have f4 : V.cell? ⟨G, 4, none⟩ = some (.int .i64 m.index) := hBr.c 4
      have f5 : V.cell? ⟨G, 5, none⟩ = some (.int .i64 m.logT) := hBr.c 5
      have f6 : V.cell? ⟨G, 6, none⟩ = some (.int .i64 m.last) := hBr.c 6
      have f7 : V.cell? ⟨G, 7, none⟩ = some (.int .i64 m.commit) := hBr.c 7
      have f11 : V.cell? ⟨G, 11, none⟩ = some (.int .i64 m.li) := hBr.c 11
      have f12 : V.cell? ⟨G, 12, none⟩ = some (.int .i64 m.lt) := hBr.c 12
      have f13 : V.cell? ⟨G, 13, none⟩ = some (.int .i64 m.lb) := hBr.c 13
      have f15 : V.cell? ⟨G, 15, none⟩ = some (.int .i64 m.part) := hBr.c 15
      have HBr := Hid.of hBr
      have hxf := Hid.of (HXW.out.then0 hX.out)
      have hD2 := hD.out
      rw [List.take_of_length_le (by have := HLN.out; omega)] at hD2
      have HD2 := Hid.of hD2
      have hGr := hBr.lt
      have hn0 := Hid.of (Blk.new V 3 #[.int .i64 m.frm, .int .i64 m.too, .int .i64 m.term, .int .i64 m.index, .int .i64 m.logT, .int .i64 m.last, .int .i64 m.commit, .int .i64 m.part, .int .i64 m.li, .int .i64 m.lt, .int .i64 m.lb])
      clear hBr hX hD hD2 b8
      go_wp2
      go_loopw [61] (fun u61 wr => ∃ (k : Nat), u61 = .int .i64 (k : Int) ∧ k ≤ 11 ∧ Hid (Ext [] (V.alloc (.cells #[.int .i64 m.frm, .int .i64 m.too, .int .i64 m.term, .int .i64 m.index, .int .i64 m.logT, .int .i64 m.last, .int .i64 m.commit, .int .i64 m.part, .int .i64 m.li, .int .i64 m.lt, .int .i64 m.lb] 3)) wr) ∧ Hid (∀ x ∈ (nums0 m).take k, R48 x)) (fun u61 _ => 11 - (intOf u61).toNat)
      case atStart => exact ⟨0, rfl, by omega, Ext.refl _ _, by simp [Hid]⟩
      case round =>
        obtain ⟨k, rfl, hk, hX, hD⟩ := hrel
        have hBn := hn0.out.keep hX.out (by simp)
        by_cases hlt : k < 11
        · have hkl : k < (nums0 m).length := hlt
          obtain ⟨n, hn⟩ : ∃ n, n = (nums0 m)[k] := ⟨_, rfl⟩
          have cn : wr.cell? ⟨V.heap.size, k, none⟩ = some (.int .i64 n) := by
            rw [hBn.c k]
            show ((nums0 m).map (Value.int .i64))[k]? = _
            rw [List.getElem?_map, List.getElem?_eq_getElem hkl, hn]
            rfl
          have hmem : n ∈ nums0 m := by rw [hn]; exact List.getElem_mem _
          have HN := Hid.of hn
          clear hn hBn
          by_cases hg : R48 n
          · have c1 := okn_yes hg
            have HG := Hid.of hg
            clear hg
            go_wp2_with (go_at_call 33; (with_reducible refine (c1 _).mono ?_); rintro e w2 ⟨rfl, rfl⟩; clear c1)
            refine ⟨⟨k + 1, by congr 1, by omega, hX.out, ?_⟩, by simp [intOf]; omega⟩
            show ∀ x ∈ _, _
            intro x hx
            rw [List.take_add_one, List.getElem?_eq_getElem hkl, ← HN.out] at hx
            rcases List.mem_append.1 hx with hx | hx
            · exact hD.out x hx
            · simp at hx; subst hx; exact HG.out
          · have c1 := okn_no hg
            have HF : Hid (decide (RightM m es ss) = false) := decide_eq_false (fun hR => hg (by
              obtain ⟨a1, a2, a3, a4, a5, a6, a7, a8, a9, a10, a11⟩ := hR.2.1
              simp only [nums0, List.mem_cons, List.not_mem_nil, or_false] at hmem
              rcases hmem with rfl | rfl | rfl | rfl | rfl | rfl | rfl | rfl | rfl | rfl | rfl <;> assumption))
            clear hg
            go_wp2_with (go_at_call 33; (with_reducible refine (c1 _).mono ?_); rintro e w2 ⟨rfl, rfl⟩; clear c1)
            go_ret
            rw [HF.out]
            exact ⟨rfl, (hxf.out.alloc _).then0 hX.out⟩
        · obtain rfl : k = 11 := by omega
          have hB2 := (HBr.out.alloc (.cells #[.int .i64 m.frm, .int .i64 m.too, .int .i64 m.term, .int .i64 m.index, .int .i64 m.logT, .int .i64 m.last, .int .i64 m.commit, .int .i64 m.part, .int .i64 m.li, .int .i64 m.lt, .int .i64 m.lb] 3)).keep hX.out (by simp)
          have g0 : wr.cell? ⟨G, 0, none⟩ = some (.int .i64 m.kind) := hB2.c 0
          have g8 : wr.cell? ⟨G, 8, none⟩ = some (.slice m.ea m.en m.ec) := hB2.c 8
          have g10 : wr.cell? ⟨G, 10, none⟩ = some (.int .i64 m.state) := hB2.c 10
          have g14 : wr.cell? ⟨G, 14, none⟩ = some (.slice m.sa m.sn m.sc) := hB2.c 14
          have g16 : wr.cell? ⟨G, 16, none⟩ = some (str m.data) := hB2.c 16
          have hxe := Hid.of ((hxf.out.alloc (.cells #[.int .i64 m.frm, .int .i64 m.too, .int .i64 m.term, .int .i64 m.index, .int .i64 m.logT, .int .i64 m.last, .int .i64 m.commit, .int .i64 m.part, .int .i64 m.li, .int .i64 m.lt, .int .i64 m.lb] 3)).then0 hX.out)
          have HR : Hid (RightM m es ss ↔ ((1 ≤ m.kind ∧ m.kind ≤ 8) ∧ m.en ≤ 4 ∧ (0 ≤ m.state ∧ m.state ≤ 3) ∧ m.sn ≤ 64 ∧ m.data.length ≤ 400)) := by
            refine Hid.of ⟨fun h => ⟨h.1, by have := h.2.2.2.1; have := HLN.out; omega, h.2.2.2.2.1, by have := h.2.2.2.2.2.1; have := HLS.out; omega, h.2.2.2.2.2.2⟩, fun h => ⟨h.1, ?_, HD2.out, by have := HLN.out; omega, h.2.2.1, by have := HLS.out; omega, h.2.2.2.2⟩⟩
            have hall := hD.out
            simp only [nums0, List.take_succ_cons, List.take_zero, List.mem_cons, List.not_mem_nil, or_false, forall_eq_or_imp, forall_eq] at hall
            obtain ⟨a1, a2, a3, a4, a5, a6, a7, a8, a9, a10, a11⟩ := hall
            exact ⟨a1, a2, a3, a4, a5, a6, a7, a8, a9, a10, a11⟩
          clear hB2 hBn hX hD
          go_wp2
          all_goals (
            go_ret
            refine ⟨?_, hxe.out⟩
            first
              | (rw [decide_eq_false (fun h => by have := HR.out.1 h; omega)]; rfl)
              | (have e7 : decide ((m.data.length : Int) ≤ 400) = decide (RightM m es ss) := by
                   apply decide_eq_decide.2
                   rw [HR.out]
                   omega
                 rw [← e7]; rfl))
end Go.Proofs.Ytaekkkcgoegllaa
