/- Package msg: Right; package chunk: List.Same. -/
import Derived.Test.YtaekkkcgoegllaaMsga
import Derived.Test.YtaekkkcgoegllaaPith
import Derived.Test.YtaekkkcgoegllaaRowb
import Derived.Test.YtaekkkcgoegllaaNetk
namespace Go.Proofs.Ytaekkkcgoegllaa
open Go.RowKit
set_option linter.unusedVariables false
set_option linter.unusedSimpArgs false

theorem el_ints : Elem Try.prog 42 3 (.int .i64 0) 1 8 := Elem.mk' Try.underlying42 rfl (by kernel_rfl)
set_option maxRecDepth 100000 in
set_option maxHeartbeats 3200000 in
theorem lsame_any (p q r p' q' r' : Int) (a b : Option Addr) (n c m d : Nat) (xs ys : List UInt32) (w : World) (h : Rd w 1 (.slice a n c) n (u32s xs)) (h2 : Rd w 1 (.slice b m d) m (u32s ys)) :
    Calls Try.prog 40 #[.agg #[.int .i64 p, .int .i64 q, .int .i64 r, .slice a n c], .agg #[.int .i64 p', .int .i64 q', .int .i64 r', .slice b m d]] w fun e w' => e = .returned (.bool (decide (p = p' ∧ q = q' ∧ r = r' ∧ xs = ys))) ∧ Ext [] w w' := by
  obtain ⟨W, hW⟩ : ∃ W, W = (w.alloc (.cells #[.int .i64 p, .int .i64 q, .int .i64 r, .slice a n c] 34)).alloc (.cells #[.int .i64 p', .int .i64 q', .int .i64 r', .slice b m d] 34) := ⟨_, rfl⟩
  have hx : Ext [] w W := by rw [hW]; exact ((Ext.refl _ _).alloc _).alloc _
  have cs := seq32_any a b n c m d xs ys W (h.keep hx (by simp)) (h2.keep hx (by simp))
  have HX := Hid.of hx
  rw [hW] at cs
  have HW := Hid.of hW
  clear hW hx h h2
  go_enter Try.func40, Try.ntmps40
  by_cases h1 : p = p'
  · subst h1
    by_cases h2 : q = q'
    · subst h2
      by_cases h3 : r = r'
      · subst h3
        go_wp2_with ((go_at_call 46; (with_reducible refine cs.mono ?_); rintro e w2 ⟨rfl, hx2⟩))
        go_ret
        rw [← HW.out] at hx2
        exact ⟨by simp, HX.out.then0 hx2⟩
      · go_wp2
        go_ret
        rw [← HW.out]
        exact ⟨by simp [h3], HX.out⟩
    · go_wp2
      go_ret
      rw [← HW.out]
      exact ⟨by simp [h2], HX.out⟩
  · go_wp2
    go_ret
    rw [← HW.out]
    exact ⟨by simp [h1], HX.out⟩
def nums0 (m : Ms) : List Int := [m.frm, m.too, m.term, m.index, m.logT, m.last, m.commit, m.part, m.li, m.lt, m.lb]
def numsE (es : List En) : List Int := es.flatMap fun e => [e.index, e.term]
theorem Rd.ent {w : World} {a : Option Addr} {n c : Nat} {es : List En} (h : Rd w 3 (.slice a n c) n (es.flatMap En.cells)) (k : Nat) (hk : k < es.length) : ∃ q off, a = some ⟨q, off, none⟩ ∧ ∀ wr, Ext [] w wr → wr.cell? ⟨q, off + k * 3, none⟩ = some (.int .i64 es[k].index) ∧ wr.cell? ⟨q, off + k * 3 + 1, none⟩ = some (.int .i64 es[k].term) ∧ wr.cell? ⟨q, off + k * 3 + 2, none⟩ = some (str es[k].data) := by
  have hl : es.length = n := by have := h.len; have e3 := flatMap_len En.cells 3 ecells_len es; rw [e3] at this; omega
  obtain ⟨q, off, rfl, hqw, hc⟩ := h.view (by omega)
  have hg : ∀ j u, j < 3 → es[k].cells[j]? = some u → w.cell? ⟨q, off + k * 3 + j, none⟩ = some u := fun j u hj hu => by
    have := hc (k * 3 + j) u (by rw [flatMap_get En.cells 3 ecells_len es k j hk hj]; exact hu)
    rwa [← Nat.add_assoc] at this
  exact ⟨q, off, rfl, fun wr hx => ⟨hx.cell (by simp) (hg 0 _ (by omega) rfl), hx.cell (by simp) (hg 1 _ (by omega) rfl), hx.cell (by simp) (hg 2 _ (by omega) rfl)⟩⟩
set_option maxRecDepth 100000 in
set_option maxHeartbeats 6400000 in
theorem right_any (m : Ms) (es : List En) (ss : List UInt32) (w : World) (h : MsAt w m es ss) (hfew : es.length ≤ 1000) :
    Calls Try.prog 22 #[.agg m.cells.toArray] w fun e w' => e = .returned (.bool (decide (RightM m es ss))) ∧ Ext [] w w' := by
  have hln : es.length = m.en := by have := h.ents.len; have e3 := flatMap_len En.cells 3 ecells_len es; rw [e3] at this; omega
  have hls : ss.length = m.sn := by have := h.sums.len; simp [u32s] at this; omega
  have hent := h.ents.ent
  have hdl := h.data
  have hed : ∀ e ∈ es, e.data.length ≤ maxLen := fun e he => (h.entsok e he).2.2
  have hem : es.length ≤ maxLen := by have := h.ents.len; rw [hln]; omega
  obtain ⟨G, hG⟩ : ∃ G, G = w.heap.size := ⟨_, rfl⟩
  obtain ⟨W, hW⟩ : ∃ W, W = w.alloc (.cells m.cells.toArray 36) := ⟨_, rfl⟩
  have hB : Blk W G 36 m.cells := by rw [hW, hG]; exact Blk.new _ _ _
  have hxW : Ext [] w W := by rw [hW]; exact (Ext.refl _ _).alloc _
  go_enter Try.func22, Try.ntmps22
  go_upto_region 1 with fail
  rw [← hW, ← hG]
  have b1 : W.cell? ⟨G, 1, none⟩ = some (.int .i64 m.frm) := hB.c 1
  have b2 : W.cell? ⟨G, 2, none⟩ = some (.int .i64 m.too) := hB.c 2
  have b3 : W.cell? ⟨G, 3, none⟩ = some (.int .i64 m.term) := hB.c 3
  have b4 : W.cell? ⟨G, 4, none⟩ = some (.int .i64 m.index) := hB.c 4
  have b5 : W.cell? ⟨G, 5, none⟩ = some (.int .i64 m.logT) := hB.c 5
  have b6 : W.cell? ⟨G, 6, none⟩ = some (.int .i64 m.last) := hB.c 6
  have b7 : W.cell? ⟨G, 7, none⟩ = some (.int .i64 m.commit) := hB.c 7
  have b8 : W.cell? ⟨G, 8, none⟩ = some (.slice m.ea m.en m.ec) := hB.c 8
  have b11 : W.cell? ⟨G, 11, none⟩ = some (.int .i64 m.li) := hB.c 11
  have b12 : W.cell? ⟨G, 12, none⟩ = some (.int .i64 m.lt) := hB.c 12
  have b13 : W.cell? ⟨G, 13, none⟩ = some (.int .i64 m.lb) := hB.c 13
  have b15 : W.cell? ⟨G, 15, none⟩ = some (.int .i64 m.part) := hB.c 15
  have hGl := hB.lt
  have HXW := Hid.of hxW
  have HB := Hid.of hB
  have HE := Hid.of hent
  have HED := Hid.of hed
  have HLN := Hid.of hln
  have hfw : m.en ≤ 1000 := by omega
  have HLS := Hid.of hls
  have hlm : m.en ≤ 9223372036854775807 := by have := h.ents.len; unfold maxLen at this; omega
  have ho := Own.lit W #[.int .i64 m.frm, .int .i64 m.too, .int .i64 m.term, .int .i64 m.index, .int .i64 m.logT, .int .i64 m.last, .int .i64 m.commit, .int .i64 m.part, .int .i64 m.li, .int .i64 m.lt, .int .i64 m.lb] 3 1 11 rfl (by unfold maxLen; omega)
  have HO0 : Hid (Own (W.alloc (.cells #[.int .i64 m.frm, .int .i64 m.too, .int .i64 m.term, .int .i64 m.index, .int .i64 m.logT, .int .i64 m.last, .int .i64 m.commit, .int .i64 m.part, .int .i64 m.li, .int .i64 m.lt, .int .i64 m.lb] 3)) 3 1 (.slice (some ⟨W.heap.size, 0, none⟩) 11 11) (11 + 2 * 0) ((nums0 m ++ numsE (es.take 0)).map (Value.int .i64))) := ho
  clear hW hG hxW hB hent hed hln hls ho h hem
  go_wp2
  go_loopw [3, 35] (fun u3 u35 wr => ∃ (k : Nat), u35 = .int .i64 (k : Int) ∧ k ≤ m.en ∧ Hid (Own wr 3 1 u3 (11 + 2 * k) ((nums0 m ++ numsE (es.take k)).map (Value.int .i64))) ∧ Hid (Ext [] W wr) ∧ Hid (∀ q ∈ vblocks u3, W.heap.size ≤ q) ∧ Hid (∀ e ∈ es.take k, e.data.length ≤ 488)) (fun _ u35 _ => m.en - (intOf u35).toNat)
  case atStart => exact ⟨0, rfl, by omega, HO0.out, (Ext.refl _ _).alloc _, fun q hq => by simp [vblocks] at hq; omega, by simp [Hid]⟩
  case round =>
    obtain ⟨k, rfl, hk, hO, hX, hV, hD⟩ := hrel
    by_cases hlt : k < m.en
    · have hkm : k < es.length := by rw [HLN.out]; exact hlt
      obtain ⟨q, off, hea, hc⟩ := HE.out k hkm
      obtain ⟨x, hx⟩ : ∃ x, x = es[k] := ⟨_, rfl⟩
      rw [← hx] at hc
      obtain ⟨d0, d1, d2⟩ := hc wr (HXW.out.then0 hX.out)
      have hxl := HED.out x (by rw [hx]; exact List.getElem_mem _)
      have HXE := Hid.of hx
      have HC := Hid.of hc
      rw [hea]
      clear hx hc
      obtain ⟨xi, xt, xd⟩ := x
      simp only at d0 d1 d2 hxl
      by_cases hbig : 488 < xd.length
      · have HF : Hid (decide (RightM m es ss) = false) := decide_eq_false (fun hR => by
          have := (hR.2.2.1 _ (List.getElem_mem hkm)).2.2
          rw [← HXE.out] at this
          exact absurd this (by show ¬ xd.length ≤ 488; omega))
        go_wp2
        go_ret
        rw [HF.out]
        exact ⟨rfl, (HXW.out.then0 hX.out).alloc _⟩
      · go_wp2_with (refine wpl_append (d := some 49) 3 (.int .i64 0) 1 8 el_ints u3 (11 + 2 * k) ((nums0 m ++ numsE (es.take k)).map (Value.int .i64)) rfl ((hO.out.alloc _).alloc _) (.slice (some ⟨wr.heap.size + 1, 0, none⟩) 2 2) 2 ([xi, xt].map (Value.int .i64)) rfl (Rd.litg (g := wr.heap.size + 1) #[.int .i64 xi, .int .i64 xt] 3 1 2 rfl (by unfold maxLen; omega) (by simp)) (icells_one .i64 [xi, xt]) (by omega) (by unfold maxLen; omega) ?_; intro v' w' ho' hx' hv' _; have HX2 := Hid.of (((hX.out.alloc _).alloc _).trans hx' (fun q hq => .inr (hV.out q hq)) : Ext [] W w'); have HV2 := Hid.of (show ∀ q ∈ vblocks v', W.heap.size ≤ q from fun q hq => by { rcases hv' with h | h; · { rw [h] at hq; exact hV.out q hq }; · { rw [h] at hq; simp at hq; have := hX.out.size; omega } }); have HO2 := Hid.of ho'; clear ho' hx' hv')
        go_roundw
        case rel =>
          have e1 : es.take (k + 1) = es.take k ++ [⟨xi, xt, xd⟩] := by rw [List.take_add_one, List.getElem?_eq_getElem hkm, ← HXE.out]; rfl
          refine ⟨k + 1, by congr 1, by omega, ?_, HX2.out, HV2.out, ?_⟩
          · show Own _ _ _ _ _ _
            have h1 := HO2.out
            rw [← List.map_append, List.append_assoc] at h1
            rw [e1, numsE, List.flatMap_append]
            exact h1
          · show ∀ e ∈ _, _
            rw [e1]
            intro e he
            rcases List.mem_append.1 he with he | he
            · exact hD.out e he
            · simp at he; subst he; show xd.length ≤ 488; omega
        case measure => simp [intOf]; omega
    · obtain rfl : k = m.en := by omega
      have hBr := HB.out.keep hX.out (by simp)
      have f0 : wr.cell? ⟨G, 0, none⟩ = some (.int .i64 m.kind) := hBr.c 0
      have f8 : wr.cell? ⟨G, 8, none⟩ = some (.slice m.ea m.en m.ec) := hBr.c 8
      have f10 : wr.cell? ⟨G, 10, none⟩ = some (.int .i64 m.state) := hBr.c 10
      have f14 : wr.cell? ⟨G, 14, none⟩ = some (.slice m.sa m.sn m.sc) := hBr.c 14
      have f16 : wr.cell? ⟨G, 16, none⟩ = some (str m.data) := hBr.c 16
      have hO2 := hO.out
      rw [List.take_of_length_le (by have := HLN.out; omega)] at hO2
      obtain ⟨a3, c3, rfl⟩ := Rd.isSlice hO2.rd
      have cmin := smin_any a3 _ c3 _ wr hO2.rd (by omega)
      have cmax := smax_any a3 _ c3 _ wr hO2.rd (by omega)
      have hmem : ∀ x, x ∈ nums0 m ++ numsE es ↔ x ∈ nums0 m ∨ ∃ e ∈ es, x = e.index ∨ x = e.term := by
        intro x
        simp [numsE]
      have HMem := Hid.of hmem
      have hD2 := hD.out
      rw [List.take_of_length_le (by have := HLN.out; omega)] at hD2
      have HD2 := Hid.of hD2
      have hxf := Hid.of (HXW.out.then0 hX.out)
      clear hBr hO hX hV hD hO2 hmem hD2
      by_cases hR : RightM m es ss
      · have HF : Hid (decide (RightM m es ss) = true) := decide_eq_true hR
        obtain ⟨⟨r1, r2⟩, hnum, hents, r3, ⟨r4, r5⟩, r6, r7⟩ := hR
        have hall : ∀ x ∈ nums0 m ++ numsE es, 0 ≤ x ∧ x ≤ 281474976710655 := by
          intro x hx
          rcases (HMem.out x).1 hx with hx | ⟨e, he, hx⟩
          · obtain ⟨a1, a2, a3, a4, a5, a6, a7, a8, a9, a10, a11⟩ := hnum
            simp only [nums0, List.mem_cons, List.not_mem_nil, or_false] at hx
            rcases hx with rfl | rfl | rfl | rfl | rfl | rfl | rfl | rfl | rfl | rfl | rfl <;> assumption
          · have := hents e he
            rcases hx with rfl | rfl
            · exact this.1
            · exact this.2.1
        have HA := Hid.of hall
        have r3' : m.en ≤ 4 := by rw [← HLN.out]; exact r3
        have r6' : m.sn ≤ 64 := by rw [← HLS.out]; exact r6
        clear hnum hents r3 r6 hall
        go_wp2_with (first
          | (go_at_call 31; (with_reducible refine cmin.mono ?_); rintro e w2 ⟨⟨r, rfl, hr1, hr2⟩, rfl⟩; have hr0 := (HA.out r hr1).1; clear hr1 hr2 cmin)
          | (go_at_call 32; (with_reducible refine cmax.mono ?_); rintro e w2 ⟨⟨s, rfl, hs1, hs2⟩, rfl⟩; have hs0 := (HA.out s hs1).2; clear hs1 hs2 cmax))
        go_ret
        have e7 : decide ((m.data.length : Int) ≤ 400) = true := decide_eq_true (by omega)
        exact ⟨by rw [HF.out, e7]; rfl, hxf.out⟩
      · have HF : Hid (decide (RightM m es ss) = false) := decide_eq_false hR
        have HR := Hid.of hR
        clear hR
        go_wp2_with (first
          | (go_at_call 31; (with_reducible refine cmin.mono ?_); rintro e w2 ⟨⟨r, rfl, hr1, hr2⟩, rfl⟩; have HR1 := Hid.of hr2; clear hr1 hr2 cmin)
          | (go_at_call 32; (with_reducible refine cmax.mono ?_); rintro e w2 ⟨⟨s, rfl, hs1, hs2⟩, rfl⟩; have HS1 := Hid.of hs2; clear hs1 hs2 cmax))
        all_goals (
          go_ret
          first
            | (rw [HF.out]; exact ⟨rfl, hxf.out⟩)
            | (have e7 : decide ((m.data.length : Int) ≤ 400) = false := decide_eq_false (fun h7 => HR.out (by
                have hall : ∀ x ∈ nums0 m ++ numsE es, R48 x := fun x hx => ⟨by have := HR1.out x hx; omega, by have := HS1.out x hx; omega⟩
                have h0 : ∀ x ∈ nums0 m, R48 x := fun x hx => hall x (List.mem_append_left _ hx)
                have hE : ∀ e ∈ es, R48 e.index ∧ R48 e.term := fun e he => ⟨hall _ ((HMem.out _).2 (.inr ⟨e, he, .inl rfl⟩)), hall _ ((HMem.out _).2 (.inr ⟨e, he, .inr rfl⟩))⟩
                have hl1 := HLN.out
                have hl2 := HLS.out
                simp only [nums0, List.mem_cons, List.not_mem_nil, or_false, forall_eq_or_imp, forall_eq] at h0
                obtain ⟨a1, a2, a3, a4, a5, a6, a7, a8, a9, a10, a11⟩ := h0
                exact ⟨⟨by omega, by omega⟩, ⟨a1, a2, a3, a4, a5, a6, a7, a8, a9, a10, a11⟩, fun e he => ⟨(hE e he).1, (hE e he).2, HD2.out e he⟩, by omega, ⟨by omega, by omega⟩, by omega, by omega⟩))
               rw [HF.out, e7]
               exact ⟨rfl, hxf.out⟩))
end Go.Proofs.Ytaekkkcgoegllaa
