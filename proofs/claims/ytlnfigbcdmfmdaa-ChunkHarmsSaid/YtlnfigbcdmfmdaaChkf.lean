/- Package chunk: Same; a store in memory; block. -/
import Derived.Test.YtlnfigbcdmfmdaaChke
import Derived.Test.YtlnfigbcdmfmdaaChkFall
namespace Go.Proofs.Ytlnfigbcdmfmdaa
open Go.RowKit
set_option linter.unusedVariables false
set_option linter.unusedSimpArgs false

set_option maxHeartbeats 3200000 in
theorem same_any (a b : Ls) (sa sb : Value) (w : World) (ha : Sums w sa a.sums) (hb : Sums w sb b.sums) :
    Calls Try.prog 21 #[lsv a sa, lsv b sb] w fun e w' => e = .returned (.bool (decide (a = b))) ∧ Ext [] w w' := by
  obtain ⟨a1, c1, rfl⟩ := Rd.isSlice ha
  obtain ⟨a2, c2, rfl⟩ := Rd.isSlice hb
  obtain ⟨i, t, n, xs⟩ := a
  obtain ⟨i', t', n', ys⟩ := b
  simp only at ha hb
  have hxz : ∀ p q r s p' q' r' s' : Value, Ext [] w ((w.alloc (.cells #[p, q, r, s] 42)).alloc (.cells #[p', q', r', s'] 42)) := fun p q r s p' q' r' s' => ((Ext.refl _ _).alloc _).alloc _
  have ce : ∀ w', Ext [] w w' → Calls Try.prog 44 #[.slice a1 xs.length c1, .slice a2 ys.length c2] w' fun e w'' => e = .returned (.bool (decide (xs = ys))) ∧ Ext [] w' w'' := fun w' hx => equal_any a1 a2 xs.length c1 ys.length c2 xs ys w' (Sums.keep0 ha hx) (Sums.keep0 hb hx)
  unfold lsv
  simp only
  by_cases h1 : i = i'
  · by_cases h2 : t = t'
    · by_cases h3 : n = n'
      · subst h1 h2 h3
        have HD : decide (xs = ys) = decide ((⟨i, t, n, xs⟩ : Ls) = ⟨i, t, n, ys⟩) := by simp
        rw [HD] at ce
        generalize decide ((⟨i, t, n, xs⟩ : Ls) = ⟨i, t, n, ys⟩) = r at ce ⊢
        clear HD ha hb
        go_enter Try.func21, Try.ntmps21
        go_wp2_with (go_at_call 44; (with_reducible refine (ce _ (hxz _ _ _ _ _ _ _ _)).mono ?_); rintro e w2 ⟨rfl, hx2⟩; have HX2 := Hid.of ((hxz _ _ _ _ _ _ _ _).then0 hx2); clear hx2 ce)
        go_ret
        exact ⟨rfl, HX2.out⟩
      · subst h1 h2
        have HD : Hid (decide ((⟨i, t, n, xs⟩ : Ls) = ⟨i, t, n', ys⟩) = false) := Hid.of (decide_eq_false (by simp [h3]))
        have hn : (n == n') = false := by simp [h3]
        generalize decide ((⟨i, t, n, xs⟩ : Ls) = ⟨i, t, n', ys⟩) = r at HD ⊢
        go_enter Try.func21, Try.ntmps21
        go_wp2
        go_ret
        exact ⟨by rw [HD.out]; rfl, hxz _ _ _ _ _ _ _ _⟩
    · subst h1
      have HD : Hid (decide ((⟨i, t, n, xs⟩ : Ls) = ⟨i, t', n', ys⟩) = false) := Hid.of (decide_eq_false (by simp [h2]))
      have hn : (t == t') = false := by simp [h2]
      generalize decide ((⟨i, t, n, xs⟩ : Ls) = ⟨i, t', n', ys⟩) = r at HD ⊢
      go_enter Try.func21, Try.ntmps21
      go_wp2
      go_ret
      exact ⟨by rw [HD.out]; rfl, hxz _ _ _ _ _ _ _ _⟩
  · have HD : Hid (decide ((⟨i, t, n, xs⟩ : Ls) = ⟨i', t', n', ys⟩) = false) := Hid.of (decide_eq_false (by simp [h1]))
    have hn : (i == i') = false := by simp [h1]
    generalize decide ((⟨i, t, n, xs⟩ : Ls) = ⟨i', t', n', ys⟩) = r at HD ⊢
    go_enter Try.func21, Try.ntmps21
    go_wp2
    go_ret
    exact ⟨by rw [HD.out]; rfl, hxz _ _ _ _ _ _ _ _⟩

/-- A store's block. -/
def StB (w : World) (q b : Nat) (sv : Value) (s : Sto) : Prop := Blk w q 84 [.pointer (some ⟨b, 0, none⟩), .int .i64 s.base, .int .i64 s.area, .int .i64 s.list.idx, .int .i64 s.list.term, .int .i64 s.list.bytes, sv]
structure StOk (s : Sto) (n : Int) : Prop where
  base : 0 ≤ s.base
  fit : s.base + 132 ≤ n
  big : n ≤ 4096
  area : s.area = -1 ∨ s.area = 0 ∨ s.area = 1
  list : (s.area = -1 ∧ s.list = Ls.zero) ∨ s.list.right
  has : s.area ≠ -1 → s.list.right
theorem StOk.len {s : Sto} {n : Int} (h : StOk s n) : s.list.sums.length ≤ 64 ∧ 0 ≤ s.list.bytes ∧ s.list.bytes ≤ 25600 ∧ 0 ≤ s.list.idx ∧ s.list.idx ≤ 1099511627776 := by
  rcases h.list with ⟨_, h⟩ | h
  · rw [h]; simp [Ls.zero]
  · have := h.bytes
    unfold Ls.right at h
    omega
structure StM (w0 w : World) (q b : Nat) (sv : Value) (D : Dv) (s : Sto) (n : Int) (O : List Nat) : Prop where
  blk : StB w q b sv s
  sums : Sums w sv s.list.sums
  dev : DevO w0 w b D (q :: (vblocks sv ++ O))
  ok : StOk s n
  newq : w0.heap.size ≤ q
  nv : q ∉ vblocks sv
  no : q ∉ O
  nvo : ∀ z ∈ vblocks sv, z ∉ O
theorem Kept.sub {O O' : List Nat} {w w' : World} (h : Kept O w w') (hs : ∀ q ∈ O', q ∈ O) : Kept O' w w' := fun q hq => h q (hs q hq)
theorem Kept.blk {O : List Nat} {w w' : World} (h : Kept O w w') {g : Nat} {t : TypeId} {cs : List Value} (hb : Blk w g t cs) (hg : g ∈ O) : Blk w' g t cs := h g hg _ hb
theorem Kept.rd {O : List Nat} {w w' : World} (h : Kept O w w') {size n : Nat} {v : Value} {xs : List Value} (hr : Rd w size v n xs) (hv : ∀ z ∈ vblocks v, z ∈ O) : Rd w' size v n xs := by
  obtain ⟨h1, a, cap, rfl, h2, h3, h4, h5⟩ := hr
  refine ⟨h1, a, cap, rfl, h2, h3, h4, fun g hg j u hu => ?_⟩
  subst hg
  have hc := h5 g rfl j u hu
  have hlt := World.block_lt_of_cell? w (g.add j) hc
  have hb : (g.add j).block = g.block := by unfold Addr.add; split <;> rfl
  have := h g.block (hv g.block (by simp [vblocks])) (w.heap[g.block]'(by rw [← hb]; exact hlt)) (Array.getElem?_eq_getElem _)
  rw [← hc]
  exact World.cell?_of_block (w := w) (by rw [hb, this]; exact (Array.getElem?_eq_getElem _).symm)
theorem DevO.sub {w0 w : World} {b : Nat} {D : Dv} {O O' : List Nat} (h : DevO w0 w b D O) (hs : ∀ q ∈ O', q ∈ O) : DevO w0 w b D O' := by
  obtain ⟨⟨F, hF, hl, ho⟩, h1, h2⟩ := h
  exact ⟨⟨F, hF, hl, fun q hq => ho q (hs q hq)⟩, h1, h2⟩
section
variable {w0 w : World} {q b : Nat} {sv : Value} {D : Dv} {s : Sto} {n : Int} {O : List Nat}
theorem StM.keep {w' : World} (h : StM w0 w q b sv D s n O) (hx : Ext [] w w') : StM w0 w' q b sv D s n O :=
  ⟨Blk.keep h.blk hx (by simp), h.sums.keep0 hx, h.dev.keep hx, h.ok, h.newq, h.nv, h.no, h.nvo⟩
theorem StM.sub {O' : List Nat} (h : StM w0 w q b sv D s n O) (hs : ∀ z ∈ O', z ∈ O) : StM w0 w q b sv D s n O' :=
  ⟨h.blk, h.sums, h.dev.sub (fun z hz => by
    simp only [List.mem_cons, List.mem_append] at hz ⊢
    rcases hz with h | h | h
    · exact .inl h
    · exact .inr (.inl h)
    · exact .inr (.inr (hs z h))), h.ok, h.newq, h.nv, fun hm => h.no (hs q hm), fun z hz hm => h.nvo z hz (hs z hm)⟩
theorem StM.add {w' : World} (h : StM w0 w q b sv D s n O) (hx : Ext [] w w') (z : Nat) (h1 : w.heap.size ≤ z) (h2 : z < w'.heap.size) : StM w0 w' q b sv D s n (z :: O) := by
  have hk := h.keep hx
  have hq := Blk.lt h.blk
  refine ⟨hk.blk, hk.sums, (h.dev.add hx z h1 h2).sub (fun y hy => ?_), h.ok, h.newq, h.nv, ?_, fun y hy hm => ?_⟩
  · simp only [List.mem_cons, List.mem_append] at hy ⊢
    rcases hy with h | h | h | h
    · exact .inr (.inl h)
    · exact .inr (.inr (.inl h))
    · exact .inl h
    · exact .inr (.inr (.inr h))
  · simp only [List.mem_cons, not_or]
    exact ⟨by omega, h.no⟩
  · rcases List.mem_cons.1 hm with e | hm
    · have := h.dev.lt y (by simp [hy])
      omega
    · exact h.nvo y hy hm
theorem StM.lt (h : StM w0 w q b sv D s n O) : ∀ z ∈ O, z < w.heap.size := fun z hz => h.dev.lt z (by simp [hz])
/-- A block beside turned. -/
theorem StM.other {w' : World} {z : Nat} (h : StM w0 w q b sv D s n O) (hx : Ext [z] w w') (hz : z ∈ O) (h1 : w0.heap.size ≤ z) : StM w0 w' q b sv D s n O :=
  ⟨Blk.keep h.blk hx (by simp; intro e; subst e; exact h.no hz), h.sums.keep hx (fun y hy hm => by simp at hm; subst hm; exact h.nvo y hy hz), h.dev.other hx (by simp [hz]) h1, h.ok, h.newq, h.nv, h.no, h.nvo⟩
/-- The device turned. -/
theorem StM.devt {w' : World} {D' : Dv} (h : StM w0 w q b sv D s n O) (hd : DevO w0 w' b D' (q :: (vblocks sv ++ O))) (hk : Kept (q :: (vblocks sv ++ O)) w w') : StM w0 w' q b sv D' s n O ∧ Kept O w w' :=
  ⟨⟨hk.blk h.blk (by simp), hk.rd h.sums (fun z hz => by simp [hz]), hd, h.ok, h.newq, h.nv, h.no, h.nvo⟩, hk.sub (fun z hz => by simp [hz])⟩
theorem StB.cells (h : StB w q b sv s) : w.cell? ⟨q, 0, none⟩ = some (.pointer (some ⟨b, 0, none⟩)) ∧ w.cell? ⟨q, 1, none⟩ = some (.int .i64 s.base) ∧ w.cell? ⟨q, 2, none⟩ = some (.int .i64 s.area) ∧ w.cell? ⟨q, 3, none⟩ = some (.int .i64 s.list.idx) ∧ w.cell? ⟨q, 4, none⟩ = some (.int .i64 s.list.term) ∧ w.cell? ⟨q, 5, none⟩ = some (.int .i64 s.list.bytes) ∧ w.cell? ⟨q, 6, none⟩ = some sv :=
  ⟨Blk.c h 0, Blk.c h 1, Blk.c h 2, Blk.c h 3, Blk.c h 4, Blk.c h 5, Blk.c h 6⟩
theorem block_o (h : StB w q b sv s) (hb : 0 ≤ s.base ∧ s.base ≤ 4096) (a k : Int) (ha : 0 ≤ a ∧ a ≤ 1) (hk : 0 ≤ k ∧ k ≤ 100) :
    Calls Try.prog 36 #[.pointer (some ⟨q, 0, none⟩), .int .i64 a, .int .i64 k] w fun e w' => e = .returned (.int .i64 (s.b a k)) ∧ Ext [] w w' := by
  obtain ⟨-, c1, -⟩ := h.cells
  have HB : Hid (s.b a k = s.base + a * 66 + k) := Hid.of rfl
  obtain ⟨hb0, hb1⟩ := hb
  obtain ⟨ha0, ha1⟩ := ha
  obtain ⟨hk0, hk1⟩ := hk
  generalize s.b a k = B at HB ⊢
  generalize s.base = base at c1 hb0 hb1 HB
  clear h
  go_enter Try.func36, Try.ntmps36
  go_wp2
  go_ret
  exact ⟨by rw [HB.out]; rfl, Ext.refl _ _⟩
end
end Go.Proofs.Ytlnfigbcdmfmdaa
