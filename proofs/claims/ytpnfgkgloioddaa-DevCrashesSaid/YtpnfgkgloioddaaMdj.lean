/- A device and its model beside each other: an act, and what same sees. -/
import Derived.Test.YtpnfgkgloioddaaMdn
import Derived.Test.YtpnfgkgloioddaaMdp
namespace Go.Proofs.Ytpnfgkgloioddaa
open Go.RowKit
set_option linter.unusedVariables false
set_option linter.unusedSimpArgs false

theorem mdo_any (m gs gg gh : Nat) (vn : Value) (n : Nat) (D : Dv) (a : Ac) (w : World) (h : MdIn w m gs gg gh vn n D) (hok : DvOk D) (hin : InR D) (hlen : D.since.length ≤ 1000000) (ha : WfAc a) :
    Calls Try.prog 35 #[.pointer (some ⟨m, 0, none⟩), a.val] w fun e w' => e = .returned (.int .i64 (actE a D)) ∧ MdTo w w' m gs gg gh vn n (actD a D) := by
  have hK6 : acK a < 6 := Nat.mod_lt _ (by omega)
  rcases (show acK a = 0 ∨ acK a = 1 ∨ acK a = 2 ∨ acK a = 3 ∨ acK a = 4 ∨ acK a = 5 by omega) with hk | hk | hk | hk | hk | hk
  · exact mdo_write0 m gs gg gh vn n D a w h hk hok hin hlen ha
  · exact mdo_write1 m gs gg gh vn n D a w h hk hok hin hlen ha
  · exact mdo_flush m gs gg gh vn n D a w h hk hok hin hlen
  · exact mdo_flip m gs gg gh vn n D a w h hk hok
  · exact mdo_lose m gs gg gh vn n D a w h hk
  · exact mdo_fall m gs gg gh vn n D a w h hk
theorem writeE_in {b : Int} {s : List UInt8} {D : Dv} (h : writeE b s D = 0) : 0 ≤ b ∧ b < D.size := by
  unfold writeE at h
  split at h
  · cases h
  · split at h
    · cases h
    · omega
theorem act_same (a : Ac) (D : Dv) : (actD a D).size = D.size ∧ (actD a D).since.length ≤ D.since.length + 1 ∧ (InR D → InR (actD a D)) := by
  obtain ⟨t1, t2, _⟩ := turnD_same D
  unfold actD
  split
  · unfold writeD
    split
    · rename_i hw
      have hb := writeE_in hw
      refine ⟨t1, ?_, fun h c hc => ?_⟩
      · show ((turnD D).since ++ [_]).length ≤ _; rw [t2]; simp
      · have hc2 : c ∈ (turnD D).since ++ [(a.block, a.data)] := hc
        rw [t2] at hc2
        rcases List.mem_append.1 hc2 with h2 | h2
        · have := h c h2
          exact ⟨this.1, by show c.1 < (turnD D).size; rw [t1]; exact this.2⟩
        · simp at h2
          subst h2
          exact ⟨hb.1, by show a.block < (turnD D).size; rw [t1]; exact hb.2⟩
    · exact ⟨t1, by rw [t2]; omega, fun h c hc => by rw [t2] at hc; rw [t1]; exact h c hc⟩
  · split
    · unfold flushD
      split
      · exact ⟨t1, by rw [t2]; omega, fun h c hc => by rw [t2] at hc; rw [t1]; exact h c hc⟩
      · exact ⟨(putsD_size _ _).1.trans t1, by simp, fun h c hc => by cases hc⟩
    · split
      · unfold flipD; split
        · exact ⟨rfl, Nat.le_succ _, fun h => h⟩
        · exact ⟨rfl, Nat.le_succ _, fun h => h⟩
      · split
        · unfold loseD; split
          · exact ⟨rfl, Nat.le_succ _, fun h => h⟩
          · exact ⟨rfl, Nat.le_succ _, fun h => h⟩
        · exact ⟨rfl, Nat.le_succ _, fun h => h⟩
theorem InR.new (n : Int) : InR (newD n) := fun c hc => by cases hc

/-- A device D1 and a model D2, beside each other, all made since w0. -/
def PairAt (w0 w : World) (b m : Nat) (D1 D2 : Dv) : Prop :=
  ∃ F gs gg gh vn n, DevAt w b F D1 ∧ MdIn w m gs gg gh vn n D2 ∧ (∀ k ∈ F, w0.heap.size ≤ k ∧ k < w.heap.size ∧ k ∉ mdF m gs gg gh vn) ∧ (∀ k ∈ mdF m gs gg gh vn, w0.heap.size ≤ k ∧ k < w.heap.size) ∧ Ext [] w0 w
theorem PairAt.ext {w0 w : World} {b m : Nat} {D1 D2 : Dv} (h : PairAt w0 w b m D1 D2) : Ext [] w0 w := by
  obtain ⟨F, gs, gg, gh, vn, n, _, _, _, _, h⟩ := h; exact h
theorem PairAt.keep {w0 w w' : World} {b m : Nat} {D1 D2 : Dv} (h : PairAt w0 w b m D1 D2) (hx : Ext [] w w') : PairAt w0 w' b m D1 D2 := by
  obtain ⟨F, gs, gg, gh, vn, n, h1, h2, h3, h4, h5⟩ := h
  have := hx.size
  exact ⟨F, gs, gg, gh, vn, n, h1.keep0 hx, h2.keep0 hx, fun k hk => ⟨(h3 k hk).1, by have := (h3 k hk).2.1; omega, (h3 k hk).2.2⟩, fun k hk => ⟨(h4 k hk).1, by have := (h4 k hk).2; omega⟩, h5.then0 hx⟩
theorem mdF_lt {w : World} {m gs gg gh : Nat} {vn : Value} {n : Nat} {D : Dv} (h : MdIn w m gs gg gh vn n D) : ∀ k ∈ mdF m gs gg gh vn, k < w.heap.size := by
  obtain ⟨a, b, c, d, e⟩ := h.lts
  intro k hk
  unfold mdF at hk
  simp only [List.mem_cons] at hk
  rcases hk with rfl | rfl | rfl | rfl | hk
  · exact a
  · exact b
  · exact c
  · exact d
  · exact e k hk
theorem pair_new {w0 w w' : World} {b : Nat} {D : Dv} (hd : DevN w0 w b D) {n : Int} (hn : D = newD n) {e : Ending} (hm : MNewPost n w e w') : ∃ m, e = .returned (.pointer (some ⟨m, 0, none⟩)) ∧ PairAt w0 w' b m D D := by
  obtain ⟨m, gs, gg, gh, k, he, hM, hx, l1, l2, l3, l4⟩ := hm
  obtain ⟨⟨F, hF, hl⟩, hxw, _⟩ := hd
  obtain ⟨F', hF', hs⟩ := hF.small
  have h0 := hxw.size
  have h1 := hx.size
  refine ⟨m, he, F', gs, gg, gh, _, k, hF'.keep0 hx, hn ▸ hM, fun z hz => ⟨hl z (hs z hz).1, by have := (hs z hz).2; omega, fun hm => ?_⟩, fun z hz => ⟨?_, mdF_lt hM z hz⟩, hxw.then0 hx⟩
  · have := (hs z hz).2
    unfold mdF at hm
    simp only [List.mem_cons, vblocks, List.not_mem_nil, or_false] at hm
    omega
  · unfold mdF at hz
    simp only [List.mem_cons, vblocks, List.not_mem_nil, or_false] at hz
    omega
/-- An act on the device. -/
theorem pair_play {w0 w : World} {b m : Nat} {D1 D2 : Dv} (h : PairAt w0 w b m D1 D2) (a : Ac) (ha : WfAc a) (hok : DvOk D1) (hlen : D1.since.length ≤ 1000000) :
    Calls Try.prog 34 #[.pointer (some ⟨b, 0, none⟩), a.val] w fun e w' => e = .returned (.int .i64 (actE a D1)) ∧ PairAt w0 w' b m (actD a D1) D2 := by
  obtain ⟨F, gs, gg, gh, vn, n, h1, h2, h3, h4, h5⟩ := h
  refine (play_any b F D1 a ha w h1 hok hlen).mono ?_
  rintro e w' ⟨he, hx, F1, hF1, hs1⟩
  obtain ⟨F', hF', hs⟩ := hF1.small
  have hsz := hx.size
  have hsz0 := h5.size
  have hnot : ∀ k ∈ mdF m gs gg gh vn, k ∉ F := fun k hk hm => (h3 k hm).2.2 hk
  have hM := h2.keep hx (hnot _ mdF_mem.1.1) (hnot _ mdF_mem.1.2.1) (hnot _ mdF_mem.1.2.2.1) (hnot _ mdF_mem.1.2.2.2) (fun k hk => hnot k (mdF_mem.2 k hk))
  refine ⟨he, F', gs, gg, gh, vn, n, hF', hM, fun k hk => ?_, fun k hk => ⟨(h4 k hk).1, by have := (h4 k hk).2; omega⟩, h5.trans hx (fun k hk => .inr (h3 k hk).1)⟩
  rcases hs1 k (hs k hk).1 with hk1 | hk1
  · exact ⟨(h3 k hk1).1, (hs k hk).2, (h3 k hk1).2.2⟩
  · exact ⟨by omega, (hs k hk).2, fun hm => by have := (h4 k hm).2; omega⟩
/-- An act on the model. -/
theorem pair_do {w0 w : World} {b m : Nat} {D1 D2 : Dv} (h : PairAt w0 w b m D1 D2) (a : Ac) (ha : WfAc a) (hok : DvOk D2) (hin : InR D2) (hlen : D2.since.length ≤ 1000000) :
    Calls Try.prog 35 #[.pointer (some ⟨m, 0, none⟩), a.val] w fun e w' => e = .returned (.int .i64 (actE a D2)) ∧ PairAt w0 w' b m D1 (actD a D2) := by
  obtain ⟨F, gs, gg, gh, vn, n, h1, h2, h3, h4, h5⟩ := h
  refine (mdo_any m gs gg gh vn n D2 a w h2 hok hin hlen ha).mono ?_
  rintro e w' ⟨he, hx, vn', hM, hv⟩
  have hsz := hx.size
  have hsz0 := h5.size
  have hD := h1.keep hx (fun k hk => (h3 k hk).2.2)
  have hmem : ∀ k ∈ mdF m gs gg gh vn', k ∈ mdF m gs gg gh vn ∨ w.heap.size ≤ k := by
    intro k hk
    unfold mdF at hk
    simp only [List.mem_cons] at hk
    rcases hk with rfl | rfl | rfl | rfl | hk
    · exact .inl mdF_mem.1.1
    · exact .inl mdF_mem.1.2.1
    · exact .inl mdF_mem.1.2.2.1
    · exact .inl mdF_mem.1.2.2.2
    · exact (hv k hk).imp_left (fun h => mdF_mem.2 k h)
  refine ⟨he, F, gs, gg, gh, vn', n, hD, hM, fun k hk => ⟨(h3 k hk).1, by have := (h3 k hk).2.1; omega, fun hm => ?_⟩, fun k hk => ⟨?_, mdF_lt hM k hk⟩, h5.trans hx (fun k hk => .inr (h4 k hk).1)⟩
  · rcases hmem k hm with h | h
    · exact (h3 k hk).2.2 h
    · have := (h3 k hk).2.1; omega
  · rcases hmem k hk with h | h
    · exact (h4 k h).1
    · omega
set_option maxRecDepth 100000 in
set_option maxHeartbeats 6400000 in
theorem pair_same {w0 w : World} {b m : Nat} {D : Dv} (h : PairAt w0 w b m D D) (hok : DvOk D) (hlen : D.since.length ≤ 1000000) :
    Calls Try.prog 36 #[.pointer (some ⟨b, 0, none⟩), .pointer (some ⟨m, 0, none⟩)] w fun e w' => e = .returned (.bool true) ∧ Ext [] w w' := by
  obtain ⟨F, gs, gg, gh, vn, n, h1, h2, h3, h4, h5⟩ := h
  obtain ⟨c0, -, -, -, -, -, c6⟩ := h2.c
  have hsz := h2.size
  have hmx := hok.size
  have cS : ∀ j, Calls Try.prog 25 #[.pointer (some ⟨b, 0, none⟩)] (w.drewN j) fun e w' => e = .returned (.int .i64 (n : Int)) ∧ w' = w.drewN j := fun j =>
    (size_any b F D _ (h1.keep0 ((Ext.refl _ _).drewN j))).mono fun e w' ⟨a, c⟩ => ⟨by rw [a, hsz], c.symm⟩
  have cW : ∀ j, Calls Try.prog 23 #[.pointer (some ⟨b, 0, none⟩)] (w.drewN j) fun e w' => e = .returned (.bool D.down) ∧ w' = w.drewN j := fun j =>
    (down_any b F D _ (h1.keep0 ((Ext.refl _ _).drewN j))).mono fun e w' ⟨a, c⟩ => ⟨a, c.symm⟩
  have cR : ∀ W, Ext [] w W → ∀ k, Calls Try.prog 20 #[.pointer (some ⟨b, 0, none⟩), .int .i64 k] W fun e w' => e = .returned (.tuple #[str (readV k D), .int .i64 (readE k D)]) ∧ Ext [] W w' := fun W hW k => dread_any b F D k W (h1.keep0 hW)
  have cM : ∀ W, Ext [] w W → ∀ k, Calls Try.prog 61 #[.pointer (some ⟨m, 0, none⟩), .int .i64 k] W fun e w' => e = .returned (.tuple #[str (readV k D), .int .i64 (readE k D)]) ∧ Ext [] W w' := fun W hW k => mread_any m gs gg gh vn n D k W (h2.keep0 hW) hlen
  have hC0 : Hid (∀ W, Ext [] w W → W.cell? ⟨m, 0, none⟩ = some (.int .i64 (n : Int))) := fun W hW => hW.cell (by simp) c0
  have hn : n ≤ 4096 := by omega
  obtain ⟨dn, hdn⟩ : ∃ d, d = D.down := ⟨_, rfl⟩
  rw [← hdn] at c6 cW
  clear h1 h2 h3 h4 h5 hsz hmx hok hlen hdn
  go_enter Try.func36, Try.ntmps36
  go_wp2_with fail
  go_quiet (first
    | (go_at_call 25; refine Calls.quiet_of_same (cS _))
    | (go_at_call 23; refine Calls.quiet_of_same (cW _)))
  go_wp2
  clear cS cW c0 c6
  go_loopw [5] (fun i wr => ∃ k : Nat, k ≤ n + 2 ∧ i = .int .i64 ((k : Int) - 1) ∧ Ext [] w wr) (fun i _ => n + 2 - (intOf i + 1).toNat)
  case atStart => exact ⟨0, by omega, by simp, (Ext.refl _ _).drewN _⟩
  case round =>
    obtain ⟨k, hk, rfl, hx⟩ := hrel
    have c0 := hC0.out wr hx
    by_cases hlt : k < n + 2
    · have cR2 := cR wr hx ((k : Int) - 1)
      have cM2 := fun W hW => cM W hW ((k : Int) - 1)
      obtain ⟨v, hv⟩ : ∃ v, v = readV ((k : Int) - 1) D := ⟨_, rfl⟩
      obtain ⟨x, hx1⟩ : ∃ v, v = readE ((k : Int) - 1) D := ⟨_, rfl⟩
      rw [← hv, ← hx1] at cR2 cM2
      have hle : (k : Int) - 1 ≤ (n : Int) := by omega
      clear hv hx1 cR cM
      go_wp2_with fail
      refine cR2.mono ?_
      rintro e w1 ⟨rfl, hx1⟩
      replace hx := hx.then0 hx1
      clear cR2 hx1 c0
      go_wp2_with fail
      refine (cM2 _ hx).mono ?_
      rintro e w2 ⟨rfl, hx2⟩
      replace hx := hx.then0 hx2
      clear cM2 hx2
      go_wp2
      go_roundw
      case rel => exact ⟨k + 1, by omega, by congr 1; omega, hx⟩
      case measure => simp [intOf]; omega
    · have hgt : (n : Int) < (k : Int) - 1 := by omega
      clear cR cM
      go_wp2
      go_ret
      exact ⟨rfl, hx⟩
end Go.Proofs.Ytpnfgkgloioddaa
