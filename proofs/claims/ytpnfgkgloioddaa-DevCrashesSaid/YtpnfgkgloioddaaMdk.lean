/- A device and its model beside each other and beside blocks that stay. -/
import Derived.Test.YtpnfgkgloioddaaMdj
import Derived.Test.YtpnfgkgloioddaaMdc
namespace Go.Proofs.Ytpnfgkgloioddaa
open Go.RowKit
set_option linter.unusedVariables false
set_option linter.unusedSimpArgs false

/-- As PairAt; the blocks S (with what they hold) stay. -/
def PairQ (w0 w : World) (S : List (Nat × Obj)) (b m : Nat) (D1 D2 : Dv) : Prop :=
  ∃ F gs gg gh vn n, DevAt w b F D1 ∧ MdIn w m gs gg gh vn n D2 ∧ (∀ k ∈ F, w0.heap.size ≤ k ∧ k < w.heap.size ∧ k ∉ mdF m gs gg gh vn) ∧ (∀ k ∈ mdF m gs gg gh vn, w0.heap.size ≤ k ∧ k < w.heap.size) ∧ Ext [] w0 w ∧
    ∀ p ∈ S, p.1 ∉ F ∧ p.1 ∉ mdF m gs gg gh vn ∧ w.heap[p.1]? = some p.2
theorem PairQ.of {w0 w : World} {b m : Nat} {D1 D2 : Dv} (h : PairAt w0 w b m D1 D2) : PairQ w0 w [] b m D1 D2 := by
  obtain ⟨F, gs, gg, gh, vn, n, h1, h2, h3, h4, h5⟩ := h
  exact ⟨F, gs, gg, gh, vn, n, h1, h2, h3, h4, h5, by simp⟩
theorem PairQ.at {w0 w : World} {S : List (Nat × Obj)} {b m : Nat} {D1 D2 : Dv} (h : PairQ w0 w S b m D1 D2) : PairAt w0 w b m D1 D2 := by
  obtain ⟨F, gs, gg, gh, vn, n, h1, h2, h3, h4, h5, h6⟩ := h
  exact ⟨F, gs, gg, gh, vn, n, h1, h2, h3, h4, h5⟩
theorem PairQ.ext {w0 w : World} {S : List (Nat × Obj)} {b m : Nat} {D1 D2 : Dv} (h : PairQ w0 w S b m D1 D2) : Ext [] w0 w := h.at.ext
theorem PairQ.keep {w0 w w' : World} {S : List (Nat × Obj)} {b m : Nat} {D1 D2 : Dv} (h : PairQ w0 w S b m D1 D2) (hx : Ext [] w w') : PairQ w0 w' S b m D1 D2 := by
  obtain ⟨F, gs, gg, gh, vn, n, h1, h2, h3, h4, h5, h6⟩ := h
  have := hx.size
  exact ⟨F, gs, gg, gh, vn, n, h1.keep0 hx, h2.keep0 hx, fun k hk => ⟨(h3 k hk).1, by have := (h3 k hk).2.1; omega, (h3 k hk).2.2⟩, fun k hk => ⟨(h4 k hk).1, by have := (h4 k hk).2; omega⟩, h5.then0 hx,
    fun p hp => ⟨(h6 p hp).1, (h6 p hp).2.1, hx.heap (by simp) (h6 p hp).2.2⟩⟩
theorem PairQ.sub {w0 w : World} {S T : List (Nat × Obj)} {b m : Nat} {D1 D2 : Dv} (h : PairQ w0 w S b m D1 D2) (hs : ∀ p ∈ T, p ∈ S) : PairQ w0 w T b m D1 D2 := by
  obtain ⟨F, gs, gg, gh, vn, n, h1, h2, h3, h4, h5, h6⟩ := h
  exact ⟨F, gs, gg, gh, vn, n, h1, h2, h3, h4, h5, fun p hp => h6 p (hs p hp)⟩
theorem PairQ.alloc {w0 w : World} {S : List (Nat × Obj)} {b m : Nat} {D1 D2 : Dv} (h : PairQ w0 w S b m D1 D2) (o : Obj) : PairQ w0 (w.alloc o) ((w.heap.size, o) :: S) b m D1 D2 := by
  have h' := h.keep ((Ext.refl [] w).alloc o)
  obtain ⟨F, gs, gg, gh, vn, n, h1, h2, h3, h4, h5, h6⟩ := h
  have hx : Ext [] w (w.alloc o) := (Ext.refl [] w).alloc o
  have hsz := hx.size
  refine ⟨F, gs, gg, gh, vn, n, h1.keep0 hx, h2.keep0 hx, fun k hk => ⟨(h3 k hk).1, by have := (h3 k hk).2.1; omega, (h3 k hk).2.2⟩, fun k hk => ⟨(h4 k hk).1, by have := (h4 k hk).2; omega⟩, h5.then0 hx, ?_⟩
  intro p hp
  rcases List.mem_cons.1 hp with rfl | hp
  · exact ⟨fun hm => by have := (h3 _ hm).2.1; simp at this, fun hm => by have := (h4 _ hm).2; simp at this, by show (w.heap.push o)[w.heap.size]? = some o; simp⟩
  · exact ⟨(h6 p hp).1, (h6 p hp).2.1, hx.heap (by simp) (h6 p hp).2.2⟩
theorem PairQ.heap {w0 w : World} {S : List (Nat × Obj)} {b m : Nat} {D1 D2 : Dv} (h : PairQ w0 w S b m D1 D2) {q : Nat} {o : Obj} (hq : (q, o) ∈ S) : w.heap[q]? = some o := by
  obtain ⟨F, gs, gg, gh, vn, n, h1, h2, h3, h4, h5, h6⟩ := h
  exact (h6 _ hq).2.2
theorem lt_of_heap {w : World} {q : Nat} {o : Obj} (h : w.heap[q]? = some o) : q < w.heap.size := (Array.getElem?_eq_some_iff.1 h).1
theorem pairQ_play {w0 w : World} {S : List (Nat × Obj)} {b m : Nat} {D1 D2 : Dv} (h : PairQ w0 w S b m D1 D2) (a : Ac) (ha : WfAc a) (hok : DvOk D1) (hlen : D1.since.length ≤ 1000000) :
    Calls Try.prog 34 #[.pointer (some ⟨b, 0, none⟩), a.val] w fun e w' => e = .returned (.int .i64 (actE a D1)) ∧ PairQ w0 w' S b m (actD a D1) D2 := by
  obtain ⟨F, gs, gg, gh, vn, n, h1, h2, h3, h4, h5, h6⟩ := h
  refine (play_any b F D1 a ha w h1 hok hlen).mono ?_
  rintro e w' ⟨he, hx, F1, hF1, hs1⟩
  obtain ⟨F', hF', hs⟩ := hF1.small
  have hsz := hx.size
  have hsz0 := h5.size
  have hnot : ∀ k ∈ mdF m gs gg gh vn, k ∉ F := fun k hk hm => (h3 k hm).2.2 hk
  have hM := h2.keep hx (hnot _ mdF_mem.1.1) (hnot _ mdF_mem.1.2.1) (hnot _ mdF_mem.1.2.2.1) (hnot _ mdF_mem.1.2.2.2) (fun k hk => hnot k (mdF_mem.2 k hk))
  refine ⟨he, F', gs, gg, gh, vn, n, hF', hM, fun k hk => ?_, fun k hk => ⟨(h4 k hk).1, by have := (h4 k hk).2; omega⟩, h5.trans hx (fun k hk => .inr (h3 k hk).1), fun p hp => ⟨fun hk => ?_, (h6 p hp).2.1, hx.heap (h6 p hp).1 (h6 p hp).2.2⟩⟩
  · rcases hs1 k (hs k hk).1 with hk1 | hk1
    · exact ⟨(h3 k hk1).1, (hs k hk).2, (h3 k hk1).2.2⟩
    · exact ⟨by omega, (hs k hk).2, fun hm => by have := (h4 k hm).2; omega⟩
  · rcases hs1 _ (hs _ hk).1 with hk1 | hk1
    · exact (h6 p hp).1 hk1
    · have := lt_of_heap (h6 p hp).2.2; omega
theorem pairQ_do {w0 w : World} {S : List (Nat × Obj)} {b m : Nat} {D1 D2 : Dv} (h : PairQ w0 w S b m D1 D2) (a : Ac) (ha : WfAc a) (hok : DvOk D2) (hin : InR D2) (hlen : D2.since.length ≤ 1000000) :
    Calls Try.prog 35 #[.pointer (some ⟨m, 0, none⟩), a.val] w fun e w' => e = .returned (.int .i64 (actE a D2)) ∧ PairQ w0 w' S b m D1 (actD a D2) := by
  obtain ⟨F, gs, gg, gh, vn, n, h1, h2, h3, h4, h5, h6⟩ := h
  refine (mdo_any m gs gg gh vn n D2 a w h2 hok hin hlen ha).mono ?_
  rintro e w' ⟨he, hx, vn', hM, hv⟩
  have hsz := hx.size
  have hsz0 := h5.size
  have hD := h1.keep hx (fun k hk => (h3 k hk).2.2)
  have hmem : ∀ k ∈ mdF m gs gg gh vn', k ∈ mdF m gs gg gh vn ∨ w.heap.size ≤ k := by
    intro k hk
    unfold mdF at hk
    simp only [List.mem_cons] at hk
    rcases hk with rfl | rfl | rfl | rfl | hk
    · exact .inl mdF_mem.1.1
    · exact .inl mdF_mem.1.2.1
    · exact .inl mdF_mem.1.2.2.1
    · exact .inl mdF_mem.1.2.2.2
    · exact (hv k hk).imp_left (fun h => mdF_mem.2 k h)
  refine ⟨he, F, gs, gg, gh, vn', n, hD, hM, fun k hk => ⟨(h3 k hk).1, by have := (h3 k hk).2.1; omega, fun hm => ?_⟩, fun k hk => ⟨?_, mdF_lt hM k hk⟩, h5.trans hx (fun k hk => .inr (h4 k hk).1), fun p hp => ⟨(h6 p hp).1, fun hk => ?_, hx.heap (h6 p hp).2.1 (h6 p hp).2.2⟩⟩
  · rcases hmem k hm with h | h
    · exact (h3 k hk).2.2 h
    · have := (h3 k hk).2.1; omega
  · rcases hmem k hk with h | h
    · exact (h4 k h).1
    · omega
  · rcases hmem _ hk with h | h
    · exact (h6 p hp).2.1 h
    · have := lt_of_heap (h6 p hp).2.2; omega
/-- A device, behind its loss of power; its model not yet. -/
def PairC (w0 w : World) (S : List (Nat × Obj)) (b m b' : Nat) (D D' : Dv) : Prop :=
  PairQ w0 w S b m D D ∧ ∃ F, DevAt w b' F D' ∧ ∀ k ∈ F, w0.heap.size ≤ k ∧ k < w.heap.size ∧ ∀ p ∈ S, p.1 ≠ k
theorem pair_c1 {w0 w : World} {S : List (Nat × Obj)} {b m : Nat} {D : Dv} (h : PairQ w0 w S b m D D) (hok : DvOk D) (ad : Option Addr) (len cap : Nat) (fs : List Int) (hR : Rd w 1 (.slice ad len cap) len (fs.map (Value.int .i64))) :
    Calls Try.prog 21 #[.pointer (some ⟨b, 0, none⟩), .slice ad len cap] w fun e w' => ∃ b', e = .returned (.pointer (some ⟨b', 0, none⟩)) ∧ PairC w0 w' S b m b' D (crashD fs D) ∧ Ext [] w w' := by
  obtain ⟨F, gs, gg, gh, vn, n, h1, h2, h3, h4, h5, h6⟩ := id h
  refine (crash_any b F D ad len cap fs w h1 hok hR).mono ?_
  rintro e w' ⟨b', F1, he, hF1, hl, hx⟩
  obtain ⟨F', hF', hs⟩ := hF1.small
  have hsz0 := h5.size
  exact ⟨b', he, ⟨h.keep hx, F', hF', fun k hk => ⟨by have := hl k (hs k hk).1; omega, (hs k hk).2, fun p hp => by have := lt_of_heap (h6 p hp).2.2; have := hl k (hs k hk).1; omega⟩⟩, hx⟩
theorem pair_c2 {w0 w : World} {S : List (Nat × Obj)} {b m b' : Nat} {D : Dv} (fs : List Int) (h : PairC w0 w S b m b' D (crashD fs D)) (hok : DvOk D) (hin : InR D) (hlen : D.since.length ≤ 1000000) (ad : Option Addr) (len cap : Nat) (hR : Rd w 1 (.slice ad len cap) len (fs.map (Value.int .i64))) :
    Calls Try.prog 37 #[.pointer (some ⟨m, 0, none⟩), .slice ad len cap] w fun e w' => ∃ m', e = .returned (.pointer (some ⟨m', 0, none⟩)) ∧ PairQ w0 w' S b' m' (crashD fs D) (crashD fs D) ∧ Ext [] w w' := by
  obtain ⟨⟨F, gs, gg, gh, vn, n, h1, h2, h3, h4, h5, h6⟩, F', hF', hs⟩ := h
  refine (mcrash_any m gs gg gh vn n D ad len cap fs w h2 hok hin hlen hR).mono ?_
  rintro e w' ⟨m', gs', gg', gh', n', he, hM, hx, l1, l2, l3, l4⟩
  have hsz := hx.size
  have hsz0 := h5.size
  have hge : ∀ k ∈ mdF m' gs' gg' gh' (.slice none 0 0), w.heap.size ≤ k := by
    intro k hk
    unfold mdF at hk
    simp only [List.mem_cons, vblocks, List.not_mem_nil, or_false] at hk
    rcases hk with rfl | rfl | rfl | rfl <;> assumption
  exact ⟨m', he, ⟨F', gs', gg', gh', _, n', hF'.keep0 hx, hM, fun k hk => ⟨(hs k hk).1, by have := (hs k hk).2.1; omega, fun hm => by have := (hs k hk).2.1; have := hge k hm; omega⟩, fun k hk => ⟨by have := hge k hk; omega, mdF_lt hM k hk⟩, h5.then0 hx,
    fun p hp => ⟨fun hm => (hs _ hm).2.2 p hp rfl, fun hm => by have := hge _ hm; have := lt_of_heap (h6 p hp).2.2; omega, hx.heap (by simp) (h6 p hp).2.2⟩⟩, hx⟩
theorem crashD_nil {D : Dv} (h1 : D.since = []) (h2 : D.fall = -1) (h3 : D.down = false) (hok : DvOk D) : crashD [] D = D := by
  obtain ⟨sz, sa, si, lo, hu, fa, dn⟩ := D
  simp only at h1 h2 h3
  subst h1 h2 h3
  have a := hok.size0
  have b := hok.size
  simp only at a b
  show bareD _ = _
  unfold bareD newD
  simp
  omega
/-- A second loss of power, at once: a device that is the same. -/
theorem pair_c3 {w0 w : World} {S : List (Nat × Obj)} {b m : Nat} {D : Dv} (h : PairQ w0 w S b m D D) (hok : DvOk D) (hd : crashD [] D = D) :
    Calls Try.prog 21 #[.pointer (some ⟨b, 0, none⟩), .slice none 0 0] w fun e w' => ∃ b', e = .returned (.pointer (some ⟨b', 0, none⟩)) ∧ PairAt w0 w' b' m D D ∧ Ext [] w w' := by
  obtain ⟨F, gs, gg, gh, vn, n, h1, h2, h3, h4, h5, h6⟩ := h
  refine (crash_any b F D none 0 0 [] w h1 hok (Rd.nil _ _)).mono ?_
  rintro e w' ⟨b', F1, he, hF1, hl, hx⟩
  obtain ⟨F', hF', hs⟩ := hF1.small
  rw [hd] at hF'
  have hsz0 := h5.size
  have hsz := hx.size
  exact ⟨b', he, ⟨F', gs, gg, gh, vn, n, hF', h2.keep0 hx, fun k hk => ⟨by have := hl k (hs k hk).1; omega, (hs k hk).2, fun hm => by have := hl k (hs k hk).1; have := (h4 k hm).2; omega⟩, fun k hk => ⟨(h4 k hk).1, by have := (h4 k hk).2; omega⟩, h5.then0 hx⟩, hx⟩
end Go.Proofs.Ytpnfgkgloioddaa
