/- The model's Do. -/
import Derived.Test.YtpnfgkgloioddaaMdl
import Derived.Test.YtpnfgkgloioddaaBits
import Derived.Test.YtpnfgkgloioddaaStep
namespace Go.Proofs.Ytpnfgkgloioddaa
open Go.RowKit
set_option linter.unusedVariables false
set_option linter.unusedSimpArgs false
attribute [local go_sem high] run_max2 run_min2

section
variable {w w' : World} {m gs gg gh : Nat} {vn : Value} {n : Nat} {D : Dv}
theorem MdIn.setM (h : MdIn w m gs gg gh vn n D) (D' : Dv) (hs : D'.size = D.size) (h1 : D'.safe = D.safe) (h2 : D'.lost = D.lost) (h3 : D'.hurt = D.hurt) (h4 : D'.since = D.since) (hx : Ext [m] w w')
    (hb : Blk w' m 111 [.int .i64 (n : Int), .slice (some ⟨gs, 0, none⟩) n n, vn, .slice (some ⟨gg, 0, none⟩) n n, .slice (some ⟨gh, 0, none⟩) n n, .int .i64 D'.fall, .bool D'.down]) : MdIn w' m gs gg gh vn n D' :=
  ⟨hb, hs.trans h.size, by rw [h1]; exact h.safe.keep hx (by simp [h.n1]), by rw [h2]; exact h.gone.keep hx (by simp [h.n2]), by rw [h3]; exact h.hurt.keep hx (by simp [h.n3]),
    by rw [h4]; exact h.since.keep hx (fun k hk => by simp [(h.sep k hk).1]), h.n1, h.n2, h.n3, h.n12, h.n13, h.n23, h.sep⟩
theorem MdIn.setFall (h : MdIn w m gs gg gh vn n D) (f : Int) : MdIn (w.setCell ⟨m, 5, none⟩ (.int .i64 f)) m gs gg gh vn n { D with fall := f } :=
  h.setM _ rfl rfl rfl rfl rfl ((Ext.refl _ _).setCell (.inl (by simp)) _) (h.blk.set 5 (.int .i64 f))
theorem MdIn.setDown (h : MdIn w m gs gg gh vn n D) : MdIn (w.setCell ⟨m, 6, none⟩ (.bool true)) m gs gg gh vn n { D with down := true } :=
  h.setM _ rfl rfl rfl rfl rfl ((Ext.refl _ _).setCell (.inl (by simp)) _) (h.blk.set 6 (.bool true))
theorem MdIn.setGone (h : MdIn w m gs gg gh vn n D) (i : Nat) (v : Bool) : MdIn (w.setCell ⟨gg, i, none⟩ (.bool v)) m gs gg gh vn n { D with lost := setF D.lost i v } :=
  have hx : Ext [gg] w (w.setCell ⟨gg, i, none⟩ (.bool v)) := (Ext.refl _ _).setCell (.inl (by simp)) _
  ⟨h.blk.keep hx (by simp [Ne.symm h.n2]), h.size, h.safe.keep hx (by simp [h.n12]), by have := h.gone.set i (.bool v); rw [row_setB] at this; exact this, h.hurt.keep hx (by simp [Ne.symm h.n23]),
    h.since.keep hx (fun k hk => by simp [(h.sep k hk).2.2.1]), h.n1, h.n2, h.n3, h.n12, h.n13, h.n23, h.sep⟩
theorem MdIn.setHurt (h : MdIn w m gs gg gh vn n D) (i : Nat) (v : Bool) : MdIn (w.setCell ⟨gh, i, none⟩ (.bool v)) m gs gg gh vn n { D with hurt := setF D.hurt i v } :=
  have hx : Ext [gh] w (w.setCell ⟨gh, i, none⟩ (.bool v)) := (Ext.refl _ _).setCell (.inl (by simp)) _
  ⟨h.blk.keep hx (by simp [Ne.symm h.n3]), h.size, h.safe.keep hx (by simp [h.n13]), h.gone.keep hx (by simp [h.n23]), by have := h.hurt.set i (.bool v); rw [row_setB] at this; exact this,
    h.since.keep hx (fun k hk => by simp [(h.sep k hk).2.2.2]), h.n1, h.n2, h.n3, h.n12, h.n13, h.n23, h.sep⟩
theorem MdIn.setSafe (h : MdIn w m gs gg gh vn n D) (i : Nat) (v : List UInt8) : MdIn (w.setCell ⟨gs, i, none⟩ (str v)) m gs gg gh vn n { D with safe := setF D.safe i v } :=
  have hx : Ext [gs] w (w.setCell ⟨gs, i, none⟩ (str v)) := (Ext.refl _ _).setCell (.inl (by simp)) _
  ⟨h.blk.keep hx (by simp [Ne.symm h.n1]), h.size, by have := h.safe.set i (str v); rw [row_setS] at this; exact this, h.gone.keep hx (by simp [Ne.symm h.n12]), h.hurt.keep hx (by simp [Ne.symm h.n13]),
    h.since.keep hx (fun k hk => by simp [(h.sep k hk).2.1]), h.n1, h.n2, h.n3, h.n12, h.n13, h.n23, h.sep⟩
theorem MdIn.clear (h : MdIn w m gs gg gh vn n D) : MdIn (w.setCell ⟨m, 2, none⟩ (.slice none 0 0)) m gs gg gh (.slice none 0 0) n { D with since := [] } :=
  have hx : Ext [m] w (w.setCell ⟨m, 2, none⟩ (.slice none 0 0)) := (Ext.refl _ _).setCell (.inl (by simp)) _
  ⟨h.blk.set 2 (.slice none 0 0), h.size, h.safe.keep hx (by simp [h.n1]), h.gone.keep hx (by simp [h.n2]), h.hurt.keep hx (by simp [h.n3]), Own.nil _ _ _, h.n1, h.n2, h.n3, h.n12, h.n13, h.n23, by simp [vblocks]⟩
theorem MdIn.app {w1 : World} (h : MdIn w1 m gs gg gh vn n D) {v' : Value} (c : Int × List UInt8) (hx : Ext (vblocks vn) w1 w') (ho : Own w' 114 2 v' (D.since.length + 1) (chgs D.since ++ chgs [c])) (hv : vblocks v' = vblocks vn ∨ vblocks v' = [w1.heap.size]) :
    MdIn (w'.setCell ⟨m, 2, none⟩ v') m gs gg gh v' n { D with since := D.since ++ [c] } ∧ (∀ k ∈ vblocks v', k ∈ vblocks vn ∨ w1.heap.size ≤ k) ∧ Ext (m :: vblocks vn) w1 (w'.setCell ⟨m, 2, none⟩ v') := by
  have hs := h.sep
  have hl := h.lts
  have hm : m ∉ vblocks vn := fun hm => (hs m hm).1 rfl
  have h1 : gs ∉ vblocks vn := fun hm => (hs gs hm).2.1 rfl
  have h2 : gg ∉ vblocks vn := fun hm => (hs gg hm).2.2.1 rfl
  have h3 : gh ∉ vblocks vn := fun hm => (hs gh hm).2.2.2 rfl
  have hx2 : Ext [m] w' (w'.setCell ⟨m, 2, none⟩ v') := (Ext.refl _ _).setCell (.inl (by simp)) _
  have hvb : ∀ k ∈ vblocks v', k ∈ vblocks vn ∨ w1.heap.size ≤ k := by
    intro k hk
    rcases hv with hv | hv
    · exact .inl (hv ▸ hk)
    · rw [hv] at hk; simp at hk; exact .inr (by omega)
  have hsep : ∀ k ∈ vblocks v', k ≠ m ∧ k ≠ gs ∧ k ≠ gg ∧ k ≠ gh := by
    intro k hk
    rcases hvb k hk with hk | hk
    · exact hs k hk
    · exact ⟨by omega, by omega, by omega, by omega⟩
  refine ⟨⟨(h.blk.keep hx hm).set 2 v', h.size, (h.safe.keep hx h1).keep hx2 (by simp [h.n1]), (h.gone.keep hx h2).keep hx2 (by simp [h.n2]), (h.hurt.keep hx h3).keep hx2 (by simp [h.n3]), ?_, h.n1, h.n2, h.n3, h.n12, h.n13, h.n23, hsep⟩, hvb, ?_⟩
  · have := ho.keep hx2 (fun k hk => by simp [(hsep k hk).1])
    rw [chgs_append, List.length_append]
    exact this
  · exact (hx.mono (fun k hk => .inl (by simp [hk]))).trans hx2 (fun k hk => .inl (by simp at hk; simp [hk]))
theorem mdF_mem : (m ∈ mdF m gs gg gh vn ∧ gs ∈ mdF m gs gg gh vn ∧ gg ∈ mdF m gs gg gh vn ∧ gh ∈ mdF m gs gg gh vn) ∧ ∀ k ∈ vblocks vn, k ∈ mdF m gs gg gh vn := by
  unfold mdF
  exact ⟨by simp, fun k hk => by simp [hk]⟩
theorem ext_m (j : Nat) (v : Value) : Ext (mdF m gs gg gh vn) w (w.setCell ⟨m, j, none⟩ v) := (Ext.refl _ _).setCell (p := ⟨m, j, none⟩) (.inl mdF_mem.1.1) v
theorem ext_gs (j : Nat) (v : Value) : Ext (mdF m gs gg gh vn) w (w.setCell ⟨gs, j, none⟩ v) := (Ext.refl _ _).setCell (p := ⟨gs, j, none⟩) (.inl mdF_mem.1.2.1) v
theorem ext_gg (j : Nat) (v : Value) : Ext (mdF m gs gg gh vn) w (w.setCell ⟨gg, j, none⟩ v) := (Ext.refl _ _).setCell (p := ⟨gg, j, none⟩) (.inl mdF_mem.1.2.2.1) v
theorem ext_gh (j : Nat) (v : Value) : Ext (mdF m gs gg gh vn) w (w.setCell ⟨gh, j, none⟩ v) := (Ext.refl _ _).setCell (p := ⟨gh, j, none⟩) (.inl mdF_mem.1.2.2.2) v
theorem MdTo.of (hx : Ext (mdF m gs gg gh vn) w w') (h : MdIn w' m gs gg gh vn n D) : MdTo w w' m gs gg gh vn n D := ⟨hx, vn, h, fun k hk => .inl hk⟩
end

theorem MdTo.pre {w w0 w' : World} {m gs gg gh : Nat} {vn : Value} {n : Nat} {D : Dv} (h : MdTo w0 w' m gs gg gh vn n D) (hx : Ext [] w w0) : MdTo w w' m gs gg gh vn n D := by
  obtain ⟨h1, v, h2, h3⟩ := h
  have := hx.size
  exact ⟨(hx.mono (by simp)).trans h1 (fun z hz => .inl hz), v, h2, fun k hk => (h3 k hk).imp_right (fun h => by omega)⟩
theorem el_write : Elem Try.prog 109 114 (.agg #[.int .i64 0, .string ByteArray.empty]) 2 24 := Elem.mk' Try.underlying109 rfl (by kernel_rfl)
theorem Rd.wr1 {w : World} {g : Nat} (c : Int × List UInt8) (hg : w.heap.size = g) : Rd (w.alloc (.cells #[.int .i64 c.1, .string ⟨c.2.toArray⟩] 114)) 2 (.slice (some ⟨g, 0, none⟩) 1 1) 1 (chgs [c]) :=
  Rd.litg #[.int .i64 c.1, .string ⟨c.2.toArray⟩] 114 2 1 rfl (by unfold maxLen; omega) hg
/-- An act that came in by value, in a block. -/
def AcAt (w : World) (q : Nat) (a : Ac) : Prop := Blk w q 59 a.cells
theorem acK_eq (a : Ac) : (IntKind.u64.wrap a.k).tmod 6 = (acK a : Int) := by
  unfold acK uint
  rw [IntKind.wrap_u64, Int.tmod_eq_emod_of_nonneg (Int.emod_nonneg _ (by omega))]
  omega
def InR (D : Dv) : Prop := ∀ c ∈ D.since, 0 ≤ c.1 ∧ c.1 < D.size

set_option maxRecDepth 100000 in
set_option maxHeartbeats 6400000 in
theorem mdo_fall (m gs gg gh : Nat) (vn : Value) (n : Nat) (D : Dv) (a : Ac) (w : World) (h : MdIn w m gs gg gh vn n D) (hk : acK a = 5) :
    Calls Try.prog 35 #[.pointer (some ⟨m, 0, none⟩), a.val] w fun e w' => e = .returned (.int .i64 (actE a D)) ∧ MdTo w w' m gs gg gh vn n (actD a D) := by
  have HE : Hid (actE a D = 0) := by show _ = _; simp [actE, hk]
  have HD : Hid (actD a D = fallD a.n D) := by show _ = _; simp [actD, hk]
  have hq := acK_eq a
  rw [hk] at hq
  obtain ⟨k, b, x, s, c⟩ := a
  unfold Ac.val
  simp only at hq HD ⊢
  have hq2 : (IntKind.u64.wrap k).tmod 6 = 5 := hq
  have hx0 : ∀ a1 a2 a3 a4 a5 : Value, Ext [] w (w.alloc (.cells #[a1, a2, a3, a4, a5] 59)) := fun _ _ _ _ _ => (Ext.refl _ _).alloc _
  obtain ⟨c0, c1, c2, c3, c4, c5, c6⟩ := h.c
  have hml := h.lts.1
  have hmf := h.blk.f
  clear hk hq
  go_enter Try.func35, Try.ntmps35
  go_wp2
  go_ret
  rw [HE.out, HD.out]
  exact ⟨rfl, MdTo.of ((ext_m _ _).alloc _) ((h.setFall _).keep0 ((Ext.refl _ _).alloc _))⟩
set_option maxRecDepth 100000 in
set_option maxHeartbeats 6400000 in
theorem mdo_lose (m gs gg gh : Nat) (vn : Value) (n : Nat) (D : Dv) (a : Ac) (w : World) (h : MdIn w m gs gg gh vn n D) (hk : acK a = 4) :
    Calls Try.prog 35 #[.pointer (some ⟨m, 0, none⟩), a.val] w fun e w' => e = .returned (.int .i64 (actE a D)) ∧ MdTo w w' m gs gg gh vn n (actD a D) := by
  have HE : Hid (actE a D = 0) := by show _ = _; simp [actE, hk]
  have HD : Hid (actD a D = loseD a.block D) := by show _ = _; simp [actD, hk]
  have hsz := h.size
  have hq := acK_eq a
  rw [hk] at hq
  obtain ⟨k, b, x, s, c⟩ := a
  unfold Ac.val
  simp only at hq HD ⊢
  have hq2 : (IntKind.u64.wrap k).tmod 6 = 4 := hq
  clear hk hq
  go_enter Try.func35, Try.ntmps35
  go_wp2_with fail
  obtain ⟨W, hW⟩ : ∃ W, W = w.alloc (.cells #[.int .i64 k, .int .i64 b, .int .i64 x, .string ⟨s.toArray⟩, .int .u8 (c.toNat : Int)] 59) := ⟨_, rfl⟩
  obtain ⟨q, hq⟩ : ∃ q, q = w.heap.size := ⟨_, rfl⟩
  have hx0 : Ext [] w W := by rw [hW]; exact (Ext.refl _ _).alloc _
  have hQ : Blk W q 59 [.int .i64 k, .int .i64 b, .int .i64 x, str s, .int .u8 (c.toNat : Int)] := by rw [hW]; exact Blk.newg (C := #[.int .i64 k, .int .i64 b, .int .i64 x, .string ⟨s.toArray⟩, .int .u8 (c.toNat : Int)]) hq.symm
  have hqm : q ≠ m ∧ q ≠ gs ∧ q ≠ gg ∧ q ≠ gh ∧ ∀ z ∈ vblocks vn, z ≠ q := by
    have := h.lts
    exact ⟨by omega, by omega, by omega, by omega, fun z hz => by have := h.lts.2.2.2.2 z hz; omega⟩
  replace h := h.keep0 hx0
  rw [← hW, ← hq]
  clear hW hq
  have q0 := hQ.c 0
  have q1 := hQ.c 1
  have q2 := hQ.c 2
  have q3 := hQ.c 3
  have q4 := hQ.c 4
  have ql := hQ.lt
  simp only [List.getElem?_cons_zero, List.getElem?_cons_succ] at q0 q1 q2 q3 q4
  obtain ⟨c0, c1, c2, c3, c4, c5, c6⟩ := h.c
  obtain ⟨hml, hsl, hgl, hhl, hvl⟩ := h.lts
  have hmf := h.blk.f
  have hff := h.gone.f
  have cI := min_any m gs gg gh vn n D b W h
  by_cases hr : 0 ≤ b ∧ b < (n : Int)
  · have e1 : decide (0 ≤ b ∧ b < (n : Int)) = true := by simpa using hr
    rw [e1] at cI
    have HL : Hid (loseD b D = { D with lost := setF D.lost b true }) := by show _ = _; rw [loseD, if_pos (by omega)]
    obtain ⟨i, rfl⟩ : ∃ i : Nat, b = (i : Int) := ⟨b.toNat, by omega⟩
    have hi : i < n := by omega
    have g0 : W.cell? ⟨gg, i, none⟩ = some (.bool (D.lost i)) := by rw [h.gone.c i, row_get _ _ _ hi]
    clear e1 hr hsz
    go_wp2_with fail
    refine cI.mono ?_
    rintro e w1 ⟨rfl, rfl⟩
    clear cI
    go_wp2
    go_region
    all_goals (
      go_wp2
      go_ret
      rw [HE.out, HD.out, HL.out]
      refine ⟨rfl, MdTo.pre ?_ hx0⟩
      exact MdTo.of ((ext_gg _ _).drew) ((h.setGone i true).keep0 ((Ext.refl _ _).drew)))
  · have e1 : decide (0 ≤ b ∧ b < (n : Int)) = false := by simpa using hr
    rw [e1] at cI
    have HL : Hid (loseD b D = D) := by show _ = _; rw [loseD, if_neg (by omega)]
    clear e1 hr hsz
    go_wp2_with fail
    refine cI.mono ?_
    rintro e w1 ⟨rfl, rfl⟩
    clear cI
    go_wp2
    go_ret
    rw [HE.out, HD.out, HL.out]
    exact ⟨rfl, MdTo.pre (MdTo.of (Ext.refl _ _) h) hx0⟩
set_option maxRecDepth 100000 in
set_option maxHeartbeats 20000000 in
theorem mdo_flush (m gs gg gh : Nat) (vn : Value) (n : Nat) (D : Dv) (a : Ac) (w : World) (h : MdIn w m gs gg gh vn n D) (hk : acK a = 2) (hok : DvOk D) (hin : InR D) (hlen : D.since.length ≤ 1000000) :
    Calls Try.prog 35 #[.pointer (some ⟨m, 0, none⟩), a.val] w fun e w' => e = .returned (.int .i64 (actE a D)) ∧ MdTo w w' m gs gg gh vn n (actD a D) := by
  have HE : Hid (actE a D = turnE D) := by show _ = _; simp [actE, hk]
  have HD : Hid (actD a D = flushD D) := by show _ = _; simp [actD, hk]
  have hsz := h.size
  have hf0 := hok.fall0
  have hf1 := hok.fall
  have hq := acK_eq a
  rw [hk] at hq
  obtain ⟨T, hT⟩ : ∃ T, T = turnD D := ⟨_, rfl⟩
  have hTs : T.since = D.since ∧ T.size = D.size := by rw [hT]; exact ⟨(turnD_same D).2.1, (turnD_same D).1⟩
  have hcs : (D.down = true ∨ (D.down = false ∧ D.fall = 0)) ∨ (D.down = false ∧ D.fall < 0) ∨ (D.down = false ∧ 0 < D.fall) := by
    cases hdn : D.down
    · rcases (show D.fall = 0 ∨ D.fall < 0 ∨ 0 < D.fall by omega) with h | h | h
      · exact .inl (.inr ⟨rfl, h⟩)
      · exact .inr (.inl ⟨rfl, h⟩)
      · exact .inr (.inr ⟨rfl, h⟩)
    · exact .inl (.inl rfl)
  have ht5 : (D.down = true ∨ (D.down = false ∧ D.fall = 0)) → turnE D = 5 ∧ turnD D = { D with down := true } := by
    rintro (h1 | ⟨h1, h2⟩)
    · refine ⟨by rw [turnE, if_pos (.inl h1)], ?_⟩
      rw [turnD, if_pos h1]
      obtain ⟨_, _, _, _, _, _, dn⟩ := D
      simp only at h1
      subst h1
      rfl
    · exact ⟨by rw [turnE, if_pos (.inr h2)], by rw [turnD, if_neg (by rw [h1]; decide), if_pos h2]⟩
  have ht0 : D.down = false ∧ D.fall < 0 → turnE D = 0 ∧ turnD D = D := fun ⟨h1, h2⟩ => ⟨by rw [turnE, if_neg (by rw [h1]; simp; omega)], by rw [turnD, if_neg (by rw [h1]; decide), if_neg (by omega), if_neg (by omega)]⟩
  have ht1 : D.down = false ∧ 0 < D.fall → turnE D = 0 ∧ turnD D = { D with fall := D.fall - 1 } := fun ⟨h1, h2⟩ => ⟨by rw [turnE, if_neg (by rw [h1]; simp; omega)], by rw [turnD, if_neg (by rw [h1]; decide), if_neg (by omega), if_pos h2]⟩
  obtain ⟨k, b, x, s, c⟩ := a
  unfold Ac.val
  simp only at hq HD HE ⊢
  have hq2 : (IntKind.u64.wrap k).tmod 6 = 2 := hq
  clear hk hq
  obtain ⟨c0, c1, c2, c3, c4, c5, c6⟩ := h.c
  obtain ⟨hml, hsl, hgl, hhl, hvl⟩ := h.lts
  have hmf := h.blk.f
  have hal : Ext [] w (w.alloc (.cells #[.int .i64 k, .int .i64 b, .int .i64 x, .string ⟨s.toArray⟩, .int .u8 (c.toNat : Int)] 59)) := (Ext.refl _ _).alloc _
  have hqn : ∀ w2 : World, w2.heap.size = w.heap.size → Blk (w2.alloc (.cells #[.int .i64 k, .int .i64 b, .int .i64 x, .string ⟨s.toArray⟩, .int .u8 (c.toNat : Int)] 59)) w.heap.size 59 [.int .i64 k, .int .i64 b, .int .i64 x, str s, .int .u8 (c.toNat : Int)] := fun w2 h2 => Blk.newg (C := #[.int .i64 k, .int .i64 b, .int .i64 x, .string ⟨s.toArray⟩, .int .u8 (c.toNat : Int)]) h2
  have hqm : w.heap.size ≠ m ∧ w.heap.size ≠ gs ∧ w.heap.size ≠ gg ∧ w.heap.size ≠ gh ∧ ∀ z ∈ vblocks vn, z ≠ w.heap.size := ⟨by omega, by omega, by omega, by omega, fun z hz => by have := hvl z hz; omega⟩
  rcases hcs with hc | hc
  · obtain ⟨t1, t2⟩ := ht5 hc
    have HF : Hid (flushD D = { D with down := true }) := by show _ = _; rw [flushD, if_pos t1, t2]
    have HT5 : Hid (turnE D = 5) := t1
    clear t1 t2 ht5 ht0 ht1 hT hTs hf0 hf1 hsz hok hin hlen
    have hM := h.setDown
    rcases hc with hd | ⟨hd, hz⟩
    · rw [hd] at c6
      clear hd
      go_enter Try.func35, Try.ntmps35
      go_wp2
      go_ret
      rw [HE.out, HD.out, HF.out, HT5.out]
      exact ⟨rfl, MdTo.of ((ext_m _ _).alloc _) (hM.keep0 ((Ext.refl _ _).alloc _))⟩
    · rw [hd] at c6
      rw [hz] at c5
      clear hd hz
      go_enter Try.func35, Try.ntmps35
      go_wp2
      go_ret
      rw [HE.out, HD.out, HF.out, HT5.out]
      exact ⟨rfl, MdTo.of ((ext_m _ _).alloc _) (hM.keep0 ((Ext.refl _ _).alloc _))⟩
  · have hdn : D.down = false := hc.elim (fun h => h.1) (fun h => h.1)
    have hte : turnE D = 0 := hc.elim (fun h => (ht0 h).1) (fun h => (ht1 h).1)
    have HF : Hid (flushD D = { putsD T.since T with since := [] }) := by show _ = _; rw [flushD, hte, if_neg (by decide), ← hT, hTs.1]
    have HT0 : Hid (turnE D = 0) := hte
    have hinT : ∀ c ∈ T.since, 0 ≤ c.1 ∧ c.1 < (n : Int) := by
      intro c hc
      rw [hTs.1] at hc
      have := hin c hc
      omega
    have hlenT : T.since.length ≤ 1000000 := by rw [hTs.1]; exact hlen
    rw [hdn] at c6
    clear hte ht5 hin hlen hdn
    obtain ⟨a0, cap0, hvv⟩ := Rd.isSlice h.since.rd
    have c2' := c2
    rw [hvv] at c2'
    obtain ⟨N, hN⟩ : ∃ N, N = D.since.length := ⟨_, rfl⟩
    have hNT : T.since.length = N := by rw [hTs.1, hN]
    rw [← hN] at c2' hvv
    obtain ⟨fl, hfl⟩ : ∃ f, f = D.fall := ⟨_, rfl⟩
    rw [← hfl] at c5 hf0 hf1
    rcases hc with hc | hc
    · obtain ⟨_, t2⟩ := ht0 hc
      have e0 : (fl == 0) = false := by have := hc.2; simp; omega
      have hngt : ¬ 0 < fl := by have := hc.2; omega
      have hX0 : Ext (mdF m gs gg gh vn) w (w.alloc (.cells #[.int .i64 k, .int .i64 b, .int .i64 x, .string ⟨s.toArray⟩, .int .u8 (c.toNat : Int)] 59)) := hal.mono (by simp)
      have hM0 : MdIn (w.alloc (.cells #[.int .i64 k, .int .i64 b, .int .i64 x, .string ⟨s.toArray⟩, .int .u8 (c.toNat : Int)] 59)) m gs gg gh vn n T := by rw [hT, t2]; exact h.keep0 hal
      have hQ0 := hqn w rfl
      clear t2 ht0 ht1 hT hc hfl c2 hTs hsz h hN hok hal hqn
      go_enter Try.func35, Try.ntmps35
      go_wp2_with fail
      obtain ⟨W, hW⟩ : ∃ W, W = w.alloc (.cells #[.int .i64 k, .int .i64 b, .int .i64 x, .string ⟨s.toArray⟩, .int .u8 (c.toNat : Int)] 59) := ⟨_, rfl⟩
      rw [← hW] at hX0 hM0 hQ0
      rw [← hW]
      clear hW
      obtain ⟨q, hq⟩ : ∃ q, q = w.heap.size := ⟨_, rfl⟩
      rw [← hq] at hQ0 hqm
      rw [← hq]
      clear c0 c1 c2' c3 c4 c5 c6 hml hsl hgl hhl hvl hmf hq e0 hngt
      subst hvv
      have hP0 : putsD (T.since.take 0) T = T := rfl
      rw [← hP0] at hM0
      clear hP0
      go_loopw [151] (fun z wr => ∃ j : Nat, j ≤ N ∧ z = .int .i64 j ∧ MdIn wr m gs gg gh (.slice a0 N cap0) n (putsD (T.since.take j) T) ∧ Ext (mdF m gs gg gh (.slice a0 N cap0)) w wr) (fun z _ => N - (intOf z).toNat)
      case atStart => exact ⟨0, by omega, rfl, hM0, hX0⟩
      case round =>
        clear hM0 hX0 hQ0 hqm
        obtain ⟨j, hj, rfl, hM, hX⟩ := hrel
        have hps := putsD_size (T.since.take j) T
        obtain ⟨c0, c1, c2, c3, c4, c5, c6⟩ := hM.c
        obtain ⟨hml, hsl, hgl, hhl, hvl⟩ := hM.lts
        have n1 : ¬ gs = m := hM.n1
        have n2 : ¬ gh = m := hM.n3
        have n3 : ¬ gs = gh := hM.n13
        have n1' : ¬ m = gs := Ne.symm hM.n1
        have n2' : ¬ m = gh := Ne.symm hM.n3
        have n3' : ¬ gh = gs := Ne.symm hM.n13
        by_cases hlt : j < N
        · have hrd := hM.since.rd
          rw [hps.2.1] at hrd
          have hjT : j < T.since.length := by omega
          obtain ⟨g, off, rfl, hbw, hc⟩ := (show Rd wr 2 (.slice a0 N cap0) N (chgs T.since) by rw [hNT] at hrd; exact hrd).view (by omega)
          have c00 : wr.cell? ⟨g, off + j * 2, none⟩ = some (.int .i64 (T.since[j]).1) := hc (j * 2 + 0) (.int .i64 (T.since[j]).1) (by rw [chgs, flatMap_get _ 2 chg_len _ j 0 hjT (by omega)]; rfl)
          have c01 : wr.cell? ⟨g, off + (j * 2 + 1), none⟩ = some (str (T.since[j]).2) := hc (j * 2 + 1) (str (T.since[j]).2) (by rw [chgs, flatMap_get _ 2 chg_len _ j 1 hjT (by omega)]; rfl)
          rw [← Nat.add_assoc] at c01
          have hTK : Hid (putsD (T.since.take (j + 1)) T = putD (T.since[j]).1 (T.since[j]).2 (putsD (T.since.take j) T)) := by
            show _ = _
            rw [List.take_succ_eq_append_getElem hjT, putsD_append]; rfl
          have hr := hinT T.since[j] (List.getElem_mem _)
          obtain ⟨cc, hcc⟩ : ∃ c, c = T.since[j] := ⟨_, rfl⟩
          rw [← hcc] at c00 c01 hTK hr
          obtain ⟨cb, ct⟩ := cc
          simp only at c00 c01 hTK hr
          obtain ⟨i, rfl⟩ : ∃ i : Nat, cb = (i : Int) := ⟨cb.toNat, by omega⟩
          have hi : i < n := by omega
          obtain ⟨P, hP⟩ : ∃ P, P = putsD (T.since.take j) T := ⟨_, rfl⟩
          rw [← hP] at hM hTK
          have s0 : wr.cell? ⟨gs, i, none⟩ = some (str (P.safe i)) := by rw [hM.safe.c i, row_get _ _ _ hi]
          have u0 : wr.cell? ⟨gh, i, none⟩ = some (.bool (P.hurt i)) := by rw [hM.hurt.c i, row_get _ _ _ hi]
          have sf := hM.safe.f i
          have uf := hM.hurt.f i
          clear hc hrd hcc hP hps hr hj
          go_wp2
          go_region
          all_goals (
            go_wp2
            go_region
            all_goals (
              go_wp2
              go_roundw
              case rel => exact ⟨j + 1, by omega, by go_num, by rw [hTK.out]; exact ((hM.setSafe i ct).setHurt i false).keep0 ((((Ext.refl _ _).alloc _).drew).drew), ((((hX.setCell (p := ⟨gs, i, none⟩) (.inl mdF_mem.1.2.1) _).setCell (p := ⟨gh, i, none⟩) (.inl mdF_mem.1.2.2.2) _).alloc _).drew).drew⟩
              case measure => simp [intOf]; omega))
        · have hjN : j = N := by omega
          rw [List.take_of_length_le (by omega)] at hM
          have hmf := hM.blk.f
          clear hps hjN
          go_wp2
          go_ret
          rw [HE.out, HD.out, HF.out, HT0.out]
          exact ⟨rfl, hX.setCell (p := ⟨m, 2, none⟩) (.inl mdF_mem.1.1) _, .slice none 0 0, hM.clear, by simp [vblocks]⟩
    · obtain ⟨_, t2⟩ := ht1 hc
      have e0 : (fl == 0) = false := by have := hc.2; simp; omega
      have hgt : 0 < fl := by have := hc.2; omega
      have hX0 : Ext (mdF m gs gg gh vn) w ((w.setCell ⟨m, 5, none⟩ (.int .i64 (fl - 1))).alloc (.cells #[.int .i64 k, .int .i64 b, .int .i64 x, .string ⟨s.toArray⟩, .int .u8 (c.toNat : Int)] 59)) := (ext_m _ _).alloc _
      have hM0 : MdIn ((w.setCell ⟨m, 5, none⟩ (.int .i64 (fl - 1))).alloc (.cells #[.int .i64 k, .int .i64 b, .int .i64 x, .string ⟨s.toArray⟩, .int .u8 (c.toNat : Int)] 59)) m gs gg gh vn n T := by rw [hT, t2, ← hfl]; exact (h.setFall _).keep0 ((Ext.refl _ _).alloc _)
      have hQ0 := hqn (w.setCell ⟨m, 5, none⟩ (.int .i64 (fl - 1))) (by simp)
      clear t2 ht0 ht1 hT hc hfl c2 hTs hsz h hN hok hal hqn
      go_enter Try.func35, Try.ntmps35
      go_wp2_with fail
      obtain ⟨W, hW⟩ : ∃ W, W = (w.setCell ⟨m, 5, none⟩ (.int .i64 (fl - 1))).alloc (.cells #[.int .i64 k, .int .i64 b, .int .i64 x, .string ⟨s.toArray⟩, .int .u8 (c.toNat : Int)] 59) := ⟨_, rfl⟩
      rw [← hW] at hX0 hM0 hQ0
      rw [← hW]
      clear hW
      obtain ⟨q, hq⟩ : ∃ q, q = w.heap.size := ⟨_, rfl⟩
      rw [← hq] at hQ0 hqm
      rw [← hq]
      clear c0 c1 c2' c3 c4 c5 c6 hml hsl hgl hhl hvl hmf hq e0 hgt
      subst hvv
      have hP0 : putsD (T.since.take 0) T = T := rfl
      rw [← hP0] at hM0
      clear hP0
      go_loopw [151] (fun z wr => ∃ j : Nat, j ≤ N ∧ z = .int .i64 j ∧ MdIn wr m gs gg gh (.slice a0 N cap0) n (putsD (T.since.take j) T) ∧ Ext (mdF m gs gg gh (.slice a0 N cap0)) w wr) (fun z _ => N - (intOf z).toNat)
      case atStart => exact ⟨0, by omega, rfl, hM0, hX0⟩
      case round =>
        clear hM0 hX0 hQ0 hqm
        obtain ⟨j, hj, rfl, hM, hX⟩ := hrel
        have hps := putsD_size (T.since.take j) T
        obtain ⟨c0, c1, c2, c3, c4, c5, c6⟩ := hM.c
        obtain ⟨hml, hsl, hgl, hhl, hvl⟩ := hM.lts
        have n1 : ¬ gs = m := hM.n1
        have n2 : ¬ gh = m := hM.n3
        have n3 : ¬ gs = gh := hM.n13
        have n1' : ¬ m = gs := Ne.symm hM.n1
        have n2' : ¬ m = gh := Ne.symm hM.n3
        have n3' : ¬ gh = gs := Ne.symm hM.n13
        by_cases hlt : j < N
        · have hrd := hM.since.rd
          rw [hps.2.1] at hrd
          have hjT : j < T.since.length := by omega
          obtain ⟨g, off, rfl, hbw, hc⟩ := (show Rd wr 2 (.slice a0 N cap0) N (chgs T.since) by rw [hNT] at hrd; exact hrd).view (by omega)
          have c00 : wr.cell? ⟨g, off + j * 2, none⟩ = some (.int .i64 (T.since[j]).1) := hc (j * 2 + 0) (.int .i64 (T.since[j]).1) (by rw [chgs, flatMap_get _ 2 chg_len _ j 0 hjT (by omega)]; rfl)
          have c01 : wr.cell? ⟨g, off + (j * 2 + 1), none⟩ = some (str (T.since[j]).2) := hc (j * 2 + 1) (str (T.since[j]).2) (by rw [chgs, flatMap_get _ 2 chg_len _ j 1 hjT (by omega)]; rfl)
          rw [← Nat.add_assoc] at c01
          have hTK : Hid (putsD (T.since.take (j + 1)) T = putD (T.since[j]).1 (T.since[j]).2 (putsD (T.since.take j) T)) := by
            show _ = _
            rw [List.take_succ_eq_append_getElem hjT, putsD_append]; rfl
          have hr := hinT T.since[j] (List.getElem_mem _)
          obtain ⟨cc, hcc⟩ : ∃ c, c = T.since[j] := ⟨_, rfl⟩
          rw [← hcc] at c00 c01 hTK hr
          obtain ⟨cb, ct⟩ := cc
          simp only at c00 c01 hTK hr
          obtain ⟨i, rfl⟩ : ∃ i : Nat, cb = (i : Int) := ⟨cb.toNat, by omega⟩
          have hi : i < n := by omega
          obtain ⟨P, hP⟩ : ∃ P, P = putsD (T.since.take j) T := ⟨_, rfl⟩
          rw [← hP] at hM hTK
          have s0 : wr.cell? ⟨gs, i, none⟩ = some (str (P.safe i)) := by rw [hM.safe.c i, row_get _ _ _ hi]
          have u0 : wr.cell? ⟨gh, i, none⟩ = some (.bool (P.hurt i)) := by rw [hM.hurt.c i, row_get _ _ _ hi]
          have sf := hM.safe.f i
          have uf := hM.hurt.f i
          clear hc hrd hcc hP hps hr hj
          go_wp2
          go_region
          all_goals (
            go_wp2
            go_region
            all_goals (
              go_wp2
              go_roundw
              case rel => exact ⟨j + 1, by omega, by go_num, by rw [hTK.out]; exact ((hM.setSafe i ct).setHurt i false).keep0 ((((Ext.refl _ _).alloc _).drew).drew), ((((hX.setCell (p := ⟨gs, i, none⟩) (.inl mdF_mem.1.2.1) _).setCell (p := ⟨gh, i, none⟩) (.inl mdF_mem.1.2.2.2) _).alloc _).drew).drew⟩
              case measure => simp [intOf]; omega))
        · have hjN : j = N := by omega
          rw [List.take_of_length_le (by omega)] at hM
          have hmf := hM.blk.f
          clear hps hjN
          go_wp2
          go_ret
          rw [HE.out, HD.out, HF.out, HT0.out]
          exact ⟨rfl, hX.setCell (p := ⟨m, 2, none⟩) (.inl mdF_mem.1.1) _, .slice none 0 0, hM.clear, by simp [vblocks]⟩
end Go.Proofs.Ytpnfgkgloioddaa
