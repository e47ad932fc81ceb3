/- A device in memory: the predicate, and the contracts of dev.New, Size, Fall, Down, turn, Write, put, Flush, Lose. -/
import Derived.Test.YtmjgbkepngeckaaPith
import Derived.Test.YtmjgbkepngeckaaMap
import Derived.Test.YtmjgbkepngeckaaDevPlain
import Derived.Deep.QuietTactic
import Derived.BigQuiet
namespace Go.Proofs.Ytmjgbkepngeckaa
open Go.RowKit
set_option linter.unusedVariables false
attribute [local go_sem high] run_max2 run_min2

def chg (c : Int × List UInt8) : List Value := [.int .i64 c.1, str c.2]
theorem chg_len (c : Int × List UInt8) : (chg c).length = 2 := rfl
def chgs (l : List (Int × List UInt8)) : List Value := l.flatMap chg
theorem chgs_append (a b : List (Int × List UInt8)) : chgs (a ++ b) = chgs a ++ chgs b := by simp [chgs]
theorem chgs_one (c : Int × List UInt8) : chgs [c] = chg c := by simp [chgs]
theorem chgs_cells (l : List (Int × List UInt8)) : ∀ u ∈ chgs l, u.oneCell' = true := by
  intro u hu
  simp only [chgs, List.mem_flatMap] at hu
  obtain ⟨c, _, hc⟩ := hu
  simp only [chg, List.mem_cons, List.not_mem_nil, or_false] at hc
  rcases hc with rfl | rfl <;> rfl
theorem el_change : Elem Try.prog 92 98 (.agg #[.int .i64 0, .string ByteArray.empty]) 2 24 := Elem.mk' Try.underlying92 rfl (by kernel_rfl)

/-- The device at block b: its maps m1, m3, m4, its writes sv. -/
structure DevIn (w : World) (b m1 m3 m4 : Nat) (sv : Value) (D : Dv) : Prop where
  blk : Blk w b 94 [.int .i64 D.size, .map (some m1), sv, .map (some m3), .map (some m4), .int .i64 D.fall, .bool D.down]
  safe : MapV w m1 (str []) (fun k => str (D.safe k))
  lost : MapV w m3 (.bool false) (fun k => .bool (D.lost k))
  hurt : MapV w m4 (.bool false) (fun k => .bool (D.hurt k))
  since : Own w 98 2 sv D.since.length (chgs D.since)
  n1 : m1 ≠ b
  n3 : m3 ≠ b
  n4 : m4 ≠ b
  n13 : m1 ≠ m3
  n14 : m1 ≠ m4
  n34 : m3 ≠ m4
  sep : ∀ k ∈ vblocks sv, k ≠ b ∧ k ≠ m1 ∧ k ≠ m3 ∧ k ≠ m4
/-- A device at block b, on the blocks F. -/
def DevAt (w : World) (b : Nat) (F : List Nat) (D : Dv) : Prop := ∃ m1 m3 m4 sv, DevIn w b m1 m3 m4 sv D ∧ b ∈ F ∧ m1 ∈ F ∧ m3 ∈ F ∧ m4 ∈ F ∧ ∀ k ∈ vblocks sv, k ∈ F
/-- What a method leaves. -/
def DevTo (w w' : World) (b : Nat) (F : List Nat) (D : Dv) : Prop := Ext F w w' ∧ ∃ F', DevAt w' b F' D ∧ ∀ k ∈ F', k ∈ F ∨ w.heap.size ≤ k

theorem DevIn.keep {w w' : World} {b m1 m3 m4 : Nat} {sv : Value} {D : Dv} {G : List Nat} (h : DevIn w b m1 m3 m4 sv D) (hx : Ext G w w') (hb : b ∉ G) (h1 : m1 ∉ G) (h3 : m3 ∉ G) (h4 : m4 ∉ G) (hs : ∀ k ∈ vblocks sv, k ∉ G) : DevIn w' b m1 m3 m4 sv D :=
  ⟨h.blk.keep hx hb, h.safe.keep hx h1, h.lost.keep hx h3, h.hurt.keep hx h4, h.since.keep hx hs, h.n1, h.n3, h.n4, h.n13, h.n14, h.n34, h.sep⟩
theorem DevIn.keep0 {w w' : World} {b m1 m3 m4 : Nat} {sv : Value} {D : Dv} (h : DevIn w b m1 m3 m4 sv D) (hx : Ext [] w w') : DevIn w' b m1 m3 m4 sv D := h.keep hx (by simp) (by simp) (by simp) (by simp) (by simp)
theorem DevAt.keep {w w' : World} {b : Nat} {F G : List Nat} {D : Dv} (h : DevAt w b F D) (hx : Ext G w w') (hF : ∀ k ∈ F, k ∉ G) : DevAt w' b F D := by
  obtain ⟨m1, m3, m4, sv, hi, hb, h1, h3, h4, hs⟩ := h
  exact ⟨m1, m3, m4, sv, hi.keep hx (hF b hb) (hF _ h1) (hF _ h3) (hF _ h4) (fun k hk => hF k (hs k hk)), hb, h1, h3, h4, hs⟩
theorem DevAt.keep0 {w w' : World} {b : Nat} {F : List Nat} {D : Dv} (h : DevAt w b F D) (hx : Ext [] w w') : DevAt w' b F D := h.keep hx (by simp)
theorem DevIn.slt {w : World} {b m1 m3 m4 : Nat} {sv : Value} {D : Dv} (h : DevIn w b m1 m3 m4 sv D) : ∀ k ∈ vblocks sv, k < w.heap.size := h.since.lt
theorem DevIn.lts {w : World} {b m1 m3 m4 : Nat} {sv : Value} {D : Dv} (h : DevIn w b m1 m3 m4 sv D) : b < w.heap.size ∧ m1 < w.heap.size ∧ m3 < w.heap.size ∧ m4 < w.heap.size := ⟨h.blk.lt, h.safe.lt, h.lost.lt, h.hurt.lt⟩
/-- The smallest footprint. -/
theorem DevIn.at {w : World} {b m1 m3 m4 : Nat} {sv : Value} {D : Dv} (h : DevIn w b m1 m3 m4 sv D) : DevAt w b (b :: m1 :: m3 :: m4 :: vblocks sv) D :=
  ⟨m1, m3, m4, sv, h, by simp, by simp, by simp, by simp, fun k hk => by simp [hk]⟩
/-- A footprint of blocks that there are. -/
theorem DevAt.small {w : World} {b : Nat} {F : List Nat} {D : Dv} (h : DevAt w b F D) : ∃ F', DevAt w b F' D ∧ ∀ k ∈ F', k ∈ F ∧ k < w.heap.size := by
  obtain ⟨m1, m3, m4, sv, hi, hb, h1, h3, h4, hs⟩ := h
  refine ⟨_, hi.at, fun k hk => ?_⟩
  simp only [List.mem_cons] at hk
  rcases hk with rfl | rfl | rfl | rfl | hk
  · exact ⟨hb, hi.lts.1⟩
  · exact ⟨h1, hi.lts.2.1⟩
  · exact ⟨h3, hi.lts.2.2.1⟩
  · exact ⟨h4, hi.lts.2.2.2⟩
  · exact ⟨hs k hk, hi.slt k hk⟩
theorem DevTo.of {w w' : World} {b m1 m3 m4 : Nat} {F : List Nat} {sv : Value} {D : Dv} (hx : Ext F w w') (h : DevIn w' b m1 m3 m4 sv D) (hb : b ∈ F) (h1 : m1 ∈ F) (h3 : m3 ∈ F) (h4 : m4 ∈ F) (hs : ∀ k ∈ vblocks sv, k ∈ F ∨ w.heap.size ≤ k) : DevTo w w' b F D :=
  ⟨hx, _, h.at, fun k hk => by
    simp only [List.mem_cons] at hk
    rcases hk with rfl | rfl | rfl | rfl | hk
    · exact .inl hb
    · exact .inl h1
    · exact .inl h3
    · exact .inl h4
    · exact hs k hk⟩
theorem DevIn.c {w : World} {b m1 m3 m4 : Nat} {sv : Value} {D : Dv} (h : DevIn w b m1 m3 m4 sv D) :
    w.cell? ⟨b, 0, none⟩ = some (.int .i64 D.size) ∧ w.cell? ⟨b, 1, none⟩ = some (.map (some m1)) ∧ w.cell? ⟨b, 2, none⟩ = some sv ∧ w.cell? ⟨b, 3, none⟩ = some (.map (some m3)) ∧ w.cell? ⟨b, 4, none⟩ = some (.map (some m4)) ∧ w.cell? ⟨b, 5, none⟩ = some (.int .i64 D.fall) ∧ w.cell? ⟨b, 6, none⟩ = some (.bool D.down) :=
  ⟨h.blk.c 0, h.blk.c 1, h.blk.c 2, h.blk.c 3, h.blk.c 4, h.blk.c 5, h.blk.c 6⟩
theorem Ext.one {w : World} {b j : Nat} (v : Value) : Ext [b] w (w.setCell ⟨b, j, none⟩ v) := (Ext.refl [b] w).setCell (.inl (by simp)) v
theorem not_mem_one {a b : Nat} (h : a ≠ b) : a ∉ [b] := by simpa using h
/-- A store into the device's own block. -/
theorem DevIn.set {w : World} {b m1 m3 m4 : Nat} {sv : Value} {D : Dv} (h : DevIn w b m1 m3 m4 sv D) (j : Nat) (v : Value) (D' : Dv)
    (hc : [Value.int .i64 D.size, .map (some m1), sv, .map (some m3), .map (some m4), .int .i64 D.fall, .bool D.down].set j v = [.int .i64 D'.size, .map (some m1), sv, .map (some m3), .map (some m4), .int .i64 D'.fall, .bool D'.down])
    (h1 : D'.safe = D.safe) (h3 : D'.lost = D.lost) (h4 : D'.hurt = D.hurt) (hs : D'.since = D.since) : DevIn (w.setCell ⟨b, j, none⟩ v) b m1 m3 m4 sv D' :=
  have hx : Ext [b] w (w.setCell ⟨b, j, none⟩ v) := Ext.one v
  ⟨hc ▸ h.blk.set j v, h1 ▸ h.safe.keep hx (not_mem_one h.n1), h3 ▸ h.lost.keep hx (not_mem_one h.n3), h4 ▸ h.hurt.keep hx (not_mem_one h.n4), hs ▸ h.since.keep hx (fun k hk => not_mem_one (h.sep k hk).1), h.n1, h.n3, h.n4, h.n13, h.n14, h.n34, h.sep⟩
/-- Other writes, behind an append. -/
theorem DevIn.swap {w w' : World} {b m1 m3 m4 : Nat} {sv sv' : Value} {D : Dv} (h : DevIn w b m1 m3 m4 sv D) (l : List (Int × List UInt8)) (hx : Ext (vblocks sv) w w') (ho : Own w' 98 2 sv' l.length (chgs l)) (hv : ∀ k ∈ vblocks sv', k ∈ vblocks sv ∨ w.heap.size ≤ k) :
    DevIn (w'.setCell ⟨b, 2, none⟩ sv') b m1 m3 m4 sv' { D with since := l } := by
  have hsep : ∀ k ∈ vblocks sv', k ≠ b ∧ k ≠ m1 ∧ k ≠ m3 ∧ k ≠ m4 := by
    intro k hk
    rcases hv k hk with hk | hk
    · exact h.sep k hk
    · have := h.blk.lt; have := h.safe.lt; have := h.lost.lt; have := h.hurt.lt
      omega
  have n0 : b ∉ vblocks sv := fun hk => (h.sep _ hk).1 rfl
  have n1 : m1 ∉ vblocks sv := fun hk => (h.sep _ hk).2.1 rfl
  have n3 : m3 ∉ vblocks sv := fun hk => (h.sep _ hk).2.2.1 rfl
  have n4 : m4 ∉ vblocks sv := fun hk => (h.sep _ hk).2.2.2 rfl
  have hx2 : Ext [b] w' (w'.setCell ⟨b, 2, none⟩ sv') := Ext.one sv'
  exact ⟨(h.blk.keep hx n0).set 2 sv', (h.safe.keep hx n1).keep hx2 (not_mem_one h.n1), (h.lost.keep hx n3).keep hx2 (not_mem_one h.n3), (h.hurt.keep hx n4).keep hx2 (not_mem_one h.n4), ho.keep hx2 (fun k hk => not_mem_one (hsep k hk).1), h.n1, h.n3, h.n4, h.n13, h.n14, h.n34, hsep⟩
/-- Other writes. -/
theorem DevIn.setSince {w : World} {b m1 m3 m4 : Nat} {sv sv' : Value} {D : Dv} (h : DevIn w b m1 m3 m4 sv D) (l : List (Int × List UInt8)) (ho : Own w 98 2 sv' l.length (chgs l)) (hsep : ∀ k ∈ vblocks sv', k ≠ b ∧ k ≠ m1 ∧ k ≠ m3 ∧ k ≠ m4) :
    DevIn (w.setCell ⟨b, 2, none⟩ sv') b m1 m3 m4 sv' { D with since := l } :=
  have hx : Ext [b] w (w.setCell ⟨b, 2, none⟩ sv') := Ext.one sv'
  ⟨h.blk.set 2 sv', h.safe.keep hx (not_mem_one h.n1), h.lost.keep hx (not_mem_one h.n3), h.hurt.keep hx (not_mem_one h.n4), ho.keep hx (fun k hk => not_mem_one (hsep k hk).1), h.n1, h.n3, h.n4, h.n13, h.n14, h.n34, hsep⟩
theorem DevIn.setSafe {w w' : World} {b m1 m3 m4 : Nat} {sv : Value} {D : Dv} (h : DevIn w b m1 m3 m4 sv D) (k : Int) (s : List UInt8) (hm : MapV w' m1 (str []) (updV (fun x => str (D.safe x)) k (str s))) (hx : Ext [m1] w w') : DevIn w' b m1 m3 m4 sv { D with safe := setF D.safe k s } :=
  ⟨h.blk.keep hx (not_mem_one h.n1.symm), hm.cast (fun x => by show _ = str (setF D.safe k s x); unfold setF updV; split <;> rfl), h.lost.keep hx (not_mem_one h.n13.symm), h.hurt.keep hx (not_mem_one h.n14.symm), h.since.keep hx (fun k hk => not_mem_one (h.sep k hk).2.1), h.n1, h.n3, h.n4, h.n13, h.n14, h.n34, h.sep⟩
theorem DevIn.setLost {w w' : World} {b m1 m3 m4 : Nat} {sv : Value} {D : Dv} (h : DevIn w b m1 m3 m4 sv D) (k : Int) (s : Bool) (hm : MapV w' m3 (.bool false) (updV (fun x => .bool (D.lost x)) k (.bool s))) (hx : Ext [m3] w w') : DevIn w' b m1 m3 m4 sv { D with lost := setF D.lost k s } :=
  ⟨h.blk.keep hx (not_mem_one h.n3.symm), h.safe.keep hx (not_mem_one h.n13), hm.cast (fun x => by show _ = Value.bool (setF D.lost k s x); unfold setF updV; split <;> rfl), h.hurt.keep hx (not_mem_one h.n34.symm), h.since.keep hx (fun k hk => not_mem_one (h.sep k hk).2.2.1), h.n1, h.n3, h.n4, h.n13, h.n14, h.n34, h.sep⟩
theorem DevIn.setHurt {w w' : World} {b m1 m3 m4 : Nat} {sv : Value} {D : Dv} (h : DevIn w b m1 m3 m4 sv D) (k : Int) (s : Bool) (hm : MapV w' m4 (.bool false) (updV (fun x => .bool (D.hurt x)) k (.bool s))) (hx : Ext [m4] w w') : DevIn w' b m1 m3 m4 sv { D with hurt := setF D.hurt k s } :=
  ⟨h.blk.keep hx (not_mem_one h.n4.symm), h.safe.keep hx (not_mem_one h.n14), h.lost.keep hx (not_mem_one h.n34), hm.cast (fun x => by show _ = Value.bool (setF D.hurt k s x); unfold setF updV; split <;> rfl), h.since.keep hx (fun k hk => not_mem_one (h.sep k hk).2.2.2), h.n1, h.n3, h.n4, h.n13, h.n14, h.n34, h.sep⟩

theorem zero_str (W : World) : (zeroValue 9).run Try.prog W = .ok (str []) W := by kernel_rfl
theorem zero_bool (W : World) : (zeroValue 4).run Try.prog W = .ok (.bool false) W := by kernel_rfl

theorem Blk.newg {w : World} {t : TypeId} {C : Array Value} {g : Nat} (hg : w.heap.size = g) : Blk (w.alloc (.cells C t)) g t C.toList := by subst hg; exact Blk.new w t C
theorem new_any (n : Int) (w : World) : Calls Try.prog 34 #[.int .i64 n] w fun e w' =>
    e = .returned (.pointer (some ⟨w.heap.size + 3, 0, none⟩)) ∧ DevIn w' (w.heap.size + 3) w.heap.size (w.heap.size + 1) (w.heap.size + 2) (.slice none 0 0) (newD n) ∧ Ext [] w w' ∧ w'.heap.size = w.heap.size + 4 := by
  have hmm := @run_makeMap Try.prog
  go_enter Try.func34, Try.ntmps34
  go_wp2
  go_ret
  refine ⟨rfl, ?_, (((((Ext.refl [] w).alloc _).alloc _).alloc _).alloc _), by simp⟩
  refine ⟨?_, (((MapV.newg (str []) rfl).alloc _).alloc _).alloc _, ((MapV.newg (.bool false) (by simp)).alloc _).alloc _, (MapV.newg (.bool false) (by simp)).alloc _, Own.nil _ _ _, by omega, by omega, by omega, by omega, by omega, by omega, by simp [vblocks]⟩
  exact Blk.newg (by simp)

theorem turn_any (b : Nat) (F : List Nat) (D : Dv) (w : World) (h : DevAt w b F D) (hok : DvOk D) :
    Calls Try.prog 65 #[.pointer (some ⟨b, 0, none⟩)] w fun e w' => e = .returned (.int .i64 (turnE D)) ∧ DevTo w w' b F (turnD D) := by
  obtain ⟨m1, m3, m4, sv, hi, hb, h1, h3, h4, hs⟩ := h
  obtain ⟨_, _, _, _, _, c5, c6⟩ := hi.c
  have f5 := hi.blk.f 5
  have f6 := hi.blk.f 6
  have hf0 := hok.fall0
  have hf1 := hok.fall
  by_cases hd : D.down = true
  · have HE : Hid (turnE D = 5) := by show _ = _; simp [turnE, hd]
    have HD : Hid (turnD D = D) := by show _ = _; simp [turnD, hd]
    rw [hd] at c6
    clear hd hok
    go_enter Try.func65, Try.ntmps65
    go_wp2
    go_ret
    exact ⟨by rw [HE.out]; rfl, by rw [HD.out]; exact DevTo.of (Ext.refl _ _) hi hb h1 h3 h4 (fun k hk => .inl (hs k hk))⟩
  · have hd' : D.down = false := by simpa using hd
    rw [hd'] at c6
    by_cases h0 : D.fall = 0
    · have HE : Hid (turnE D = 5) := by show _ = _; simp [turnE, h0]
      have HD : Hid (turnD D = { D with down := true }) := by show _ = _; simp [turnD, hd', h0]
      have hset := hi.set 6 (.bool true) { D with down := true } rfl rfl rfl rfl rfl
      rw [h0] at c5
      clear hd hd' h0 hok hf0 hf1
      go_enter Try.func65, Try.ntmps65
      go_wp2
      go_ret
      exact ⟨by rw [HE.out]; rfl, by rw [HD.out]; exact DevTo.of ((Ext.refl F w).setCell (.inl hb) _) hset hb h1 h3 h4 (fun k hk => .inl (hs k hk))⟩
    · have HE : Hid (turnE D = 0) := by show _ = _; simp [turnE, h0, hd']
      have e0 : (D.fall == 0) = false := by simp [h0]
      by_cases hp : 0 < D.fall
      · have HD : Hid (turnD D = { D with fall := D.fall - 1 }) := by show _ = _; simp [turnD, hd', h0, hp]
        have hset := hi.set 5 (.int .i64 (D.fall - 1)) { D with fall := D.fall - 1 } rfl rfl rfl rfl rfl
        obtain ⟨n, hn⟩ : ∃ n, n = D.fall := ⟨_, rfl⟩
        rw [← hn] at c5 e0 hp hf0 hf1 HD hset
        clear hd hd' h0 hok hn
        go_enter Try.func65, Try.ntmps65
        go_wp2
        go_ret
        exact ⟨by rw [HE.out]; rfl, by rw [HD.out]; exact DevTo.of ((Ext.refl F w).setCell (.inl hb) _) hset hb h1 h3 h4 (fun k hk => .inl (hs k hk))⟩
      · have HD : Hid (turnD D = D) := by show _ = _; simp [turnD, hd', h0, hp]
        obtain ⟨n, hn⟩ : ∃ n, n = D.fall := ⟨_, rfl⟩
        rw [← hn] at c5 e0 hp hf0 hf1
        clear hd hd' h0 hok hn
        go_enter Try.func65, Try.ntmps65
        go_wp2
        go_ret
        exact ⟨by rw [HE.out]; rfl, by rw [HD.out]; exact DevTo.of (Ext.refl _ _) hi hb h1 h3 h4 (fun k hk => .inl (hs k hk))⟩

theorem size_any (b : Nat) (F : List Nat) (D : Dv) (w : World) (h : DevAt w b F D) :
    Calls Try.prog 41 #[.pointer (some ⟨b, 0, none⟩)] w fun e w' => e = .returned (.int .i64 D.size) ∧ w = w' := by
  obtain ⟨m1, m3, m4, sv, hi, hb, h1, h3, h4, hs⟩ := h
  obtain ⟨c0, _⟩ := hi.c
  go_enter Try.func41, Try.ntmps41
  go_wp2
  go_ret
  exact ⟨rfl, rfl⟩
theorem down_any (b : Nat) (F : List Nat) (D : Dv) (w : World) (h : DevAt w b F D) :
    Calls Try.prog 36 #[.pointer (some ⟨b, 0, none⟩)] w fun e w' => e = .returned (.bool D.down) ∧ w = w' := by
  obtain ⟨m1, m3, m4, sv, hi, hb, h1, h3, h4, hs⟩ := h
  obtain ⟨c0, _, _, _, _, _, c6⟩ := hi.c
  go_enter Try.func36, Try.ntmps36
  go_wp2
  go_ret
  exact ⟨rfl, rfl⟩
theorem fall_any (b : Nat) (F : List Nat) (D : Dv) (n : Int) (w : World) (h : DevAt w b F D) :
    Calls Try.prog 31 #[.pointer (some ⟨b, 0, none⟩), .int .i64 n] w fun e w' => e = .returned (.tuple #[]) ∧ DevTo w w' b F (fallD n D) := by
  obtain ⟨m1, m3, m4, sv, hi, hb, h1, h3, h4, hs⟩ := h
  obtain ⟨c0, _, _, _, _, c5, c6⟩ := hi.c
  have f5 := hi.blk.f 5
  have hset := hi.set 5 (.int .i64 (max n 0)) (fallD n D) rfl rfl rfl rfl rfl
  go_enter Try.func31, Try.ntmps31
  go_wp2
  go_end0
  exact ⟨rfl, DevTo.of ((Ext.refl F w).setCell (.inl hb) _) hset hb h1 h3 h4 (fun k hk => .inl (hs k hk))⟩
end Go.Proofs.Ytmjgbkepngeckaa
