/- Package net: the walks of Push and Pop. -/
import Derived.Test.YtaekkkcgoegllaaNetb
import Derived.Test.YtaekkkcgoegllaaStep
import Derived.Test.YtaekkkcgoegllaaRow
namespace Go.Proofs.Ytaekkkcgoegllaa
open Go.RowKit
set_option linter.unusedVariables false
set_option linter.unusedSimpArgs false

/-- A Net at block b: its letters lie so (L). -/
structure NetAt (w : World) (b : Nat) (v : Value) (now seq : Int) (L : List Lt) : Prop where
  blk : Blk w b 27 [v, .int .i64 now, .int .i64 seq]
  own : Own w 74 19 v L.length (lets L)
  sep : ∀ k ∈ vblocks v, k ≠ b
theorem NetAt.keep {w w' : World} {b : Nat} {v : Value} {now seq : Int} {L : List Lt} {F : List Nat} (h : NetAt w b v now seq L) (hx : Ext F w w') (hb : b ∉ F) (hv : ∀ k ∈ vblocks v, k ∉ F) : NetAt w' b v now seq L :=
  ⟨h.blk.keep hx hb, h.own.keep hx hv, h.sep⟩
theorem NetAt.keep0 {w w' : World} {b : Nat} {v : Value} {now seq : Int} {L : List Lt} (h : NetAt w b v now seq L) (hx : Ext [] w w') : NetAt w' b v now seq L := h.keep hx (by simp) (by simp)
theorem NetAt.c {w : World} {b : Nat} {v : Value} {now seq : Int} {L : List Lt} (h : NetAt w b v now seq L) : w.cell? ⟨b, 0, none⟩ = some v ∧ w.cell? ⟨b, 1, none⟩ = some (.int .i64 now) ∧ w.cell? ⟨b, 2, none⟩ = some (.int .i64 seq) := ⟨h.blk.c 0, h.blk.c 1, h.blk.c 2⟩
def NetTo (w w' : World) (b : Nat) (v : Value) (now seq : Int) (L : List Lt) : Prop :=
  Ext (b :: vblocks v) w w' ∧ ∃ v', NetAt w' b v' now seq L ∧ ∀ k ∈ vblocks v', k ∈ vblocks v ∨ w.heap.size ≤ k
theorem NetTo.mk1 {w w' : World} {b : Nat} {v : Value} {now seq : Int} {L : List Lt} (h : NetAt w' b v now seq L) (hx : Ext (b :: vblocks v) w w') : NetTo w w' b v now seq L := ⟨hx, v, h, fun k hk => .inl hk⟩
theorem NetTo.pre {w0 w w' : World} {b : Nat} {v : Value} {now seq : Int} {L : List Lt} (h : NetTo w w' b v now seq L) (hx : Ext [] w0 w) : NetTo w0 w' b v now seq L := by
  obtain ⟨h1, v', h2, h3⟩ := h
  have := hx.size
  exact ⟨(hx.mono (by simp)).trans h1 (fun k hk => .inl hk), v', h2, fun k hk => (h3 k hk).imp_right (fun h => by omega)⟩
theorem NetTo.post {w w' w'' : World} {b : Nat} {v : Value} {now seq : Int} {L : List Lt} (h : NetTo w w' b v now seq L) (hx : Ext [] w' w'') : NetTo w w'' b v now seq L := by
  obtain ⟨h1, v', h2, h3⟩ := h
  exact ⟨h1.trans hx (by simp), v', h2.keep0 hx, h3⟩
theorem el_let : Elem Try.prog 25 74 (.agg #[.int .i64 0, .int .i64 0, .int .i64 0, .int .i64 0, .int .i64 0, .int .i64 0, .int .i64 0, .int .i64 0, .int .i64 0, .int .i64 0, .slice none 0 0, .bool false, .int .i64 0, .int .i64 0, .int .i64 0, .int .i64 0, .slice none 0 0, .int .i64 0, .string ByteArray.empty]) 19 192 := Elem.mk' Try.underlying25 rfl (by kernel_rfl)
theorem Rd.let1 {w : World} {g : Nat} (l : Lt) (hg : w.heap.size = g) : Rd (w.alloc (.cells l.cells.toArray 74)) 19 (.slice (some ⟨g, 0, none⟩) 1 1) 1 (lets [l]) := by
  have := Rd.litg (w := w) (g := g) l.cells.toArray 74 19 1 rfl (by unfold maxLen; omega) hg
  simpa [lets] using this
theorem NetAt.app {w1 w' : World} {b : Nat} {v : Value} {now seq : Int} {L : List Lt} (h : NetAt w1 b v now seq L) {v' : Value} (l : Lt) (hx : Ext (vblocks v) w1 w') (ho : Own w' 74 19 v' (L.length + 1) (lets L ++ lets [l])) (hv : vblocks v' = vblocks v ∨ vblocks v' = [w1.heap.size]) :
    NetTo w1 (w'.setCell ⟨b, 0, none⟩ v') b v now seq (L ++ [l]) := by
  have hb : b ∉ vblocks v := fun hm => h.sep b hm rfl
  have hbl := h.blk.lt
  have hvb : ∀ k ∈ vblocks v', k ∈ vblocks v ∨ w1.heap.size ≤ k := by
    intro k hk
    rcases hv with hv | hv
    · exact .inl (hv ▸ hk)
    · rw [hv] at hk; simp at hk; exact .inr (by omega)
  have hsep : ∀ k ∈ vblocks v', k ≠ b := by
    intro k hk
    rcases hvb k hk with hk | hk
    · exact h.sep k hk
    · omega
  have hx2 : Ext [b] w' (w'.setCell ⟨b, 0, none⟩ v') := (Ext.refl _ _).setCell (.inl (by simp)) _
  refine ⟨(hx.mono (fun k hk => .inl (by simp [hk]))).trans hx2 (fun k hk => .inl (by simp at hk; simp [hk])), v', ⟨(h.blk.keep hx hb).set 0 v', ?_, hsep⟩, hvb⟩
  have := ho.keep hx2 (fun k hk => by simp [hsep k hk])
  have e : lets (L ++ [l]) = lets L ++ lets [l] := by simp [lets]
  rw [e, List.length_append]
  exact this
theorem as_let (T : TypeId) (v : Value) (W : World) : (Instr.typeAssert (.iface 74 v) T 74 false).run Try.prog W = .ok v W := by kernel_rfl
set_option maxHeartbeats 6400000 in
theorem push_any (b : Nat) (v : Value) (now seq : Int) (L : List Lt) (l : Lt) (w : World) (h : NetAt w b v now seq L) (hl : L.length ≤ 100000) :
    Calls Try.prog 69 #[.pointer (some ⟨b, 0, none⟩), .iface 74 (.agg l.cells.toArray)] w fun e w' => e = .returned (.tuple #[]) ∧ NetTo w w' b v now seq (L ++ [l]) := by
  obtain ⟨c0, c1, c2⟩ := h.c
  have bl := h.blk.lt
  have bf := h.blk.f 0
  have hR := Rd.let1 (w := w.drew) l rfl
  have hW : Ext [] w (w.drew.alloc (.cells l.cells.toArray 74)) := ((Ext.refl _ _).drew).alloc _
  have hO := h.keep0 hW
  obtain ⟨a0, cap0, rfl⟩ := Rd.isSlice h.own.rd
  have hone : ∀ u ∈ lets [l], u.oneCell' = true := by simpa [lets] using lcells_one l
  have hll : (L ++ [l]).length = L.length + 1 := by simp
  have hle : lets (L ++ [l]) = lets L ++ lets [l] := by simp [lets]
  obtain ⟨due, sq, k1, k2, k3, k4, k5, k6, k7, k8, ea, en, ec, ok, st, li, lt, lb, sa, sn, sc, pt, dt⟩ := l
  unfold Lt.cells Ms.cells at hR hW hO ⊢
  simp only at hR hW hO ⊢
  have hOw := hO.own
  have ha := as_let
  have hbv : b ∉ vblocks (.slice a0 L.length cap0) := fun hm => h.sep b hm rfl
  go_enter Try.func69, Try.ntmps69
  go_wp2_with fail
  go_region_law (first
    | (refine step_append rfl _ _ _ rfl 74 _ 19 192 el_let (.slice a0 L.length cap0) L.length (lets L) rfl hOw (.slice (some ⟨w.heap.size, 0, none⟩) 1 1) 1 (lets [_]) rfl hR hone (by omega) (by unfold maxLen; omega) ?_; intro v' w' ho' hx' hv'; obtain ⟨a2, cap2, rfl⟩ := Rd.isSlice (Own.rd ho'); have c9 : w'.cell? ⟨b, 0, none⟩ = some (.slice a0 L.length cap0) := hx'.cell (p := ⟨b, 0, none⟩) hbv hO.c.1; have f9 : w'.frozen? ⟨b, 0, none⟩ = false := (hx'.frozen (p := ⟨b, 0, none⟩) hbv hO.blk.lt).trans (hO.blk.f 0)))
  all_goals (
    have hF := hO.app _ hx' ho' hv'
    clear c9 f9 hR hO hx' ho' hv' hOw ha
    go_wp2
    go_end0
    exact ⟨rfl, NetTo.pre hF hW⟩)
theorem al_let (W : World) : (Instr.alloc 74 true (.tuple #[])).run Try.prog W = .ok (.pointer (some ⟨W.heap.size, 0, none⟩)) (W.alloc (.cells #[.int .i64 0, .int .i64 0, .int .i64 0, .int .i64 0, .int .i64 0, .int .i64 0, .int .i64 0, .int .i64 0, .int .i64 0, .int .i64 0, .slice none 0 0, .bool false, .int .i64 0, .int .i64 0, .int .i64 0, .int .i64 0, .slice none 0 0, .int .i64 0, .string ByteArray.empty] 74)) := by kernel_rfl
theorem al_msg (W : World) : (Instr.alloc 36 true (.tuple #[])).run Try.prog W = .ok (.pointer (some ⟨W.heap.size, 0, none⟩)) (W.alloc (.cells #[.int .i64 0, .int .i64 0, .int .i64 0, .int .i64 0, .int .i64 0, .int .i64 0, .int .i64 0, .int .i64 0, .slice none 0 0, .bool false, .int .i64 0, .int .i64 0, .int .i64 0, .int .i64 0, .slice none 0 0, .int .i64 0, .string ByteArray.empty] 36)) := by kernel_rfl
theorem Own.cut {w : World} {e : TypeId} {size g off cap n : Nat} {xs : List Value} (h : Own w e size (.slice (some ⟨g, off, none⟩) n cap) n xs) (m : Nat) (hm : m ≤ n) :
    Own w e size (.slice (some ⟨g, off, none⟩) m m) m (xs.take (m * size)) := by
  have hmn : m * size ≤ n * size := Nat.mul_le_mul_right _ hm
  refine ⟨by rw [List.length_take, h.1]; omega, ?_⟩
  rcases h.2 with ⟨h', _⟩ | ⟨g', off', cap', cur, fz, h', hg, hfz, hn, hm', hc, ht⟩
  · simp at h'
  · simp only [Value.slice.injEq, Option.some.injEq, Addr.mk.injEq, and_true, true_and] at h'
    obtain ⟨⟨rfl, rfl⟩, rfl⟩ := h'
    have hnc : n * size ≤ cap * size := Nat.mul_le_mul_right _ hn
    refine .inr ⟨g, off, m, cur, fz, rfl, hg, hfz, Nat.le_refl _, by omega, by omega, ?_⟩
    rw [← ht, List.take_take, Nat.min_eq_left hmn]
set_option maxRecDepth 100000 in
set_option maxHeartbeats 6400000 in
theorem pop_any (b g off n cap : Nat) (now seq : Int) (L : List Lt) (l : Lt) (w : World) (h : NetAt w b (.slice (some ⟨g, off, none⟩) n cap) now seq (L ++ [l])) :
    Calls Try.prog 68 #[.pointer (some ⟨b, 0, none⟩)] w fun e w' => e = .returned (.iface 74 (.agg l.cells.toArray)) ∧ NetTo w w' b (.slice (some ⟨g, off, none⟩) n cap) now seq L := by
  obtain ⟨c0, c1, c2⟩ := h.c
  have bl := h.blk.lt
  have bf := h.blk.f 0
  have hn : n = L.length + 1 := by
    rcases h.own.2 with ⟨h', _⟩ | ⟨g', off', cap', cur, fz, h', _⟩
    · simp at h'
    · simp only [Value.slice.injEq] at h'
      rw [h'.2.1]; simp
  have hlm : n ≤ 9223372036854775807 := by have := h.own.rd.len; unfold maxLen at this; simp at this; omega
  have ho := h.own
  have hnl : (L ++ [l]).length = n := by simp; omega
  rw [hnl] at ho
  have hr := (ho.range L.length (by simp)).1
  have el0 : (L ++ [l])[L.length]'(by simp) = l := by simp
  rw [el0] at hr
  have e1 : L.length = n - 1 := by omega
  have hcut := ho.cut (n - 1) (by omega)
  have hF : NetTo w (w.setCell ⟨b, 0, none⟩ (.slice (some ⟨g, off, none⟩) (n - 1) (n - 1))) b (.slice (some ⟨g, off, none⟩) n cap) now seq L := by
    have hx : Ext [b] w (w.setCell ⟨b, 0, none⟩ (.slice (some ⟨g, off, none⟩) (n - 1) (n - 1))) := (Ext.refl _ _).setCell (.inl (by simp)) _
    have hgb : g ≠ b := h.sep g (by simp [vblocks])
    refine ⟨hx.mono (fun k hk => .inl (by simp at hk; simp [hk])), _, ⟨h.blk.set 0 _, ?_, by simp [vblocks, hgb]⟩, by simp [vblocks]⟩
    have e : lets L = (lets (L ++ [l])).take ((n - 1) * 19) := by
      have el : (lets L).length = (n - 1) * 19 := by rw [lets_len, e1]
      rw [← el]
      unfold lets
      rw [List.flatMap_append, List.take_left]
    rw [e, e1]
    exact hcut.keep hx (by simp [vblocks, hgb])
  rw [e1] at hr
  have hn1 : 1 ≤ n := by omega
  have hcap : n ≤ cap := by
    rcases ho.2 with ⟨h', _⟩ | ⟨g', off', cap', cur, fz, h', hg, hfz, hn', hm', hc, ht⟩
    · simp at h'
    · simp only [Value.slice.injEq] at h'
      rw [h'.2.2]; exact hn'
  have hg1 : 1 ≤ (n : Int) ∧ (n : Int) - 1 ≤ (cap : Int) := by omega
  have HF := Hid.of hF
  have hlc := lcells_len l
  have hlo := lcells_one l
  have hrn : ((w.setCell ⟨b, 0, none⟩ (.slice (some ⟨g, off, none⟩) (n - 1) (n - 1))).alloc (.cells l.cells.toArray 74)).rangeAt w.heap.size 0 l.cells := by
    have := World.rangeAt_new (w.setCell ⟨b, 0, none⟩ (.slice (some ⟨g, off, none⟩) (n - 1) (n - 1))) l.cells 74
    rwa [World.size_setCell] at this
  generalize l.cells = cs at hr hlc hlo hrn ⊢
  have HL := Hid.of hlo
  have HC := Hid.of hlc
  have HR := Hid.of hr
  have HN := Hid.of hrn
  clear hF hcut ho hn h c1 c2 hr hlc hlo hrn hnl el0 e1
  go_enter Try.func68, Try.ntmps68
  go_wp2_with (first
    | (refine wpList_load_mid rfl 74 _ rfl g (off + (n - 1) * 19) rfl cs _ HR.out Try.underlying74 rfl (by rw [HC.out]; kernel_rfl) ?_)
    | (refine wpList_load_mid rfl 74 _ rfl w.heap.size 0 rfl cs _ HN.out Try.underlying74 rfl (by rw [HC.out]; kernel_rfl) ?_)
    | (refine wpList_new_row rfl rfl 74 _ _ _ rfl rfl rfl rfl _ al_let cs (by rw [HC.out]; rfl) (by rw [HC.out]; kernel_rfl) HL.out rfl rfl ?_))
  go_ret
  exact ⟨rfl, HF.out.post ((Ext.refl [] _).alloc _)⟩
end Go.Proofs.Ytaekkkcgoegllaa
