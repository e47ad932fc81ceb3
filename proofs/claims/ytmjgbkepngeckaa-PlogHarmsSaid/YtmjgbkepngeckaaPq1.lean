/- Package plog: a log in memory; place, First, Last, Room, Term. Package plog: how an entry's place reads (look). Package plog: what turns a log, and what its device does beside it; Hurt, Read, Scrub. Package plog: Read, Scrub. -/
import Derived.Test.YtmjgbkepngeckaaFine
import Derived.Test.YtmjgbkepngeckaaMapr
import Derived.Test.YtmjgbkepngeckaaSlotr
import Derived.Test.YtmjgbkepngeckaaSlotd
import Derived.BigQuiet
import Derived.Test.YtmjgbkepngeckaaRow
namespace Go.Proofs.Ytmjgbkepngeckaa
open Go.RowKit
set_option linter.unusedVariables false
set_option linter.unusedSimpArgs false

/-- A log: its places, its first number, each entry's term, the numbers that were seen to be damaged. -/
structure Lg where
  base : Int
  size : Int
  first : Int
  terms : List Int
  hurt : Int → Bool
def Lg.last (L : Lg) : Int := L.first + (L.terms.length : Int) - 1
structure LgOk (L : Lg) (n : Int) : Prop where
  base : 0 ≤ L.base
  size : 1 ≤ L.size
  fit : L.base + 2 * L.size ≤ n
  big : n ≤ 4096
  first : 1 ≤ L.first
  firstb : L.first ≤ 1000000000
  len : (L.terms.length : Int) ≤ L.size
  terms : ∀ t ∈ L.terms, 0 ≤ t ∧ t ≤ 281474976710655
  hurt : ∀ i, L.hurt i = true → 1 ≤ i ∧ i ≤ 2000000000
def hurtF (h : Int → Bool) : Int → Option Value := fun i => if h i = true then some (.bool true) else none
/-- The log's own block. -/
def LgB (w : World) (q b mb : Nat) (tv : Value) (L : Lg) : Prop := Blk w q 86 [.pointer (some ⟨b, 0, none⟩), .int .i64 L.base, .int .i64 L.size, .int .i64 L.first, tv, .map (some mb)]
def ints (l : List Int) : List Value := l.map (Value.int .i64)
/-- All of a log in memory, and its device, beside other blocks O. -/
structure LgM (w0 w : World) (q b mb : Nat) (tv : Value) (D : Dv) (L : Lg) (n : Int) (O : List Nat) : Prop where
  blk : LgB w q b mb tv L
  terms : Own w 3 1 tv L.terms.length (ints L.terms)
  hurt : MapAt w mb (hurtF L.hurt)
  dev : DevO w0 w b D (q :: mb :: (vblocks tv ++ O))
  ok : LgOk L n
  ne : q ≠ mb
  neq : q ∉ vblocks tv
  nem : mb ∉ vblocks tv
  out : ∀ z ∈ O, z ≠ q ∧ z ≠ mb ∧ z ∉ vblocks tv
  newq : w0.heap.size ≤ q
  newm : w0.heap.size ≤ mb
  newt : ∀ z ∈ vblocks tv, w0.heap.size ≤ z
theorem LgM.keep {w0 w w' : World} {q b mb : Nat} {tv : Value} {D : Dv} {L : Lg} {n : Int} {O : List Nat} (h : LgM w0 w q b mb tv D L n O) (hx : Ext [] w w') : LgM w0 w' q b mb tv D L n O :=
  ⟨Blk.keep h.blk hx (by simp), h.terms.keep hx (by simp), h.hurt.keep hx (by simp), h.dev.keep hx, h.ok, h.ne, h.neq, h.nem, h.out, h.newq, h.newm, h.newt⟩
/-- The device is in working order besides. -/
structure LgAt (w0 w : World) (q b mb : Nat) (tv : Value) (D : Dv) (L : Lg) (n : Int) (V : Int → Sl) (s : Nat) (O : List Nat) : Prop extends LgM w0 w q b mb tv D L n O where
  fine : Fine D n V s
theorem LgAt.keep {w0 w w' : World} {q b mb : Nat} {tv : Value} {D : Dv} {L : Lg} {n : Int} {V : Int → Sl} {s : Nat} {O : List Nat} (h : LgAt w0 w q b mb tv D L n V s O) (hx : Ext [] w w') : LgAt w0 w' q b mb tv D L n V s O :=
  ⟨h.toLgM.keep hx, h.fine⟩
theorem LgB.cells {w : World} {q b mb : Nat} {tv : Value} {L : Lg} (h : LgB w q b mb tv L) :
    w.cell? ⟨q, 0, none⟩ = some (.pointer (some ⟨b, 0, none⟩)) ∧ w.cell? ⟨q, 1, none⟩ = some (.int .i64 L.base) ∧ w.cell? ⟨q, 2, none⟩ = some (.int .i64 L.size) ∧ w.cell? ⟨q, 3, none⟩ = some (.int .i64 L.first) ∧ w.cell? ⟨q, 4, none⟩ = some tv ∧ w.cell? ⟨q, 5, none⟩ = some (.map (some mb)) :=
  ⟨Blk.c h 0, Blk.c h 1, Blk.c h 2, Blk.c h 3, Blk.c h 4, Blk.c h 5⟩

theorem first_o {q b mb : Nat} {tv : Value} {L : Lg} (w : World) (h : LgB w q b mb tv L) :
    Calls Try.prog 29 #[.pointer (some ⟨q, 0, none⟩)] w fun e w' => e = .returned (.int .i64 L.first) ∧ w' = w := by
  obtain ⟨c0, c1, c2, c3, c4, c5⟩ := h.cells
  clear h
  go_enter Try.func29, Try.ntmps29
  go_wp2
  go_ret
  exact ⟨rfl, rfl⟩
theorem first_nil (w : World) : Calls Try.prog 29 #[.pointer none] w fun e w' => e = .returned (.int .i64 1) ∧ w' = w := by
  go_enter Try.func29, Try.ntmps29
  go_wp2
  go_ret
  exact ⟨rfl, rfl⟩
theorem last_nil (w : World) : Calls Try.prog 21 #[.pointer none] w fun e w' => e = .returned (.int .i64 0) ∧ w' = w := by
  go_enter Try.func21, Try.ntmps21
  go_wp2
  go_ret
  exact ⟨rfl, rfl⟩
/-- A call that hands back v and only draws. -/
def QRet (w : World) (v : Value) (e : Ending) (w' : World) : Prop := e = .returned v ∧ ∃ m, w' = w.drewN m
theorem QRet.ext {w w' : World} {v : Value} {e : Ending} (h : QRet w v e w') : e = .returned v ∧ Ext [] w w' := by
  obtain ⟨rfl, m, rfl⟩ := h
  exact ⟨rfl, (Ext.refl _ _).drewN m⟩
theorem qret {w : World} {v : Value} (m : Nat) : QRet w v (.returned v) (w.drewN m) := ⟨rfl, m, rfl⟩
theorem qret0 {w : World} {v : Value} : QRet w v (.returned v) w := ⟨rfl, 0, rfl⟩
theorem LgB.draw {w : World} {q b mb : Nat} {tv : Value} {L : Lg} (h : LgB w q b mb tv L) (m : Nat) : LgB (w.drewN m) q b mb tv L := Blk.keep h ((Ext.refl [] w).drewN m) (by simp)
set_option maxHeartbeats 1600000 in
theorem last_o {q b mb : Nat} {tv : Value} {L : Lg} {n : Int} (w : World) (h : LgB w q b mb tv L) (hok : LgOk L n) (ht : ∃ a c, tv = .slice a L.terms.length c) :
    Calls Try.prog 21 #[.pointer (some ⟨q, 0, none⟩)] w (QRet w (.int .i64 L.last)) := by
  obtain ⟨a, c, rfl⟩ := ht
  obtain ⟨c0, c1, c2, c3, c4, c5⟩ := h.cells
  have h1 := hok.first
  have h2 := hok.firstb
  have h3 := hok.len
  have h4 := hok.fit
  have h5 := hok.base
  have h6 := hok.big
  clear h hok
  go_enter Try.func21, Try.ntmps21
  go_wp2
  go_quiet (fail)
  go_wp2
  go_ret
  exact qret nq
theorem room_nil (w : World) : Calls Try.prog 32 #[.pointer none] w (QRet w (.int .i64 0)) := by
  go_enter Try.func32, Try.ntmps32
  go_wp2
  go_ret
  exact qret0
set_option maxHeartbeats 1600000 in
theorem room_o {q b mb : Nat} {tv : Value} {L : Lg} {n : Int} (w : World) (h : LgB w q b mb tv L) (hok : LgOk L n) (ht : ∃ a c, tv = .slice a L.terms.length c) :
    Calls Try.prog 32 #[.pointer (some ⟨q, 0, none⟩)] w (QRet w (.int .i64 (L.size - (L.terms.length : Int)))) := by
  obtain ⟨a, c, rfl⟩ := ht
  obtain ⟨c0, c1, c2, c3, c4, c5⟩ := h.cells
  have h1 := hok.first
  have h2 := hok.size
  have h3 := hok.len
  have h4 := hok.fit
  have h5 := hok.base
  have h6 := hok.big
  clear h hok
  go_enter Try.func32, Try.ntmps32
  go_wp2
  go_quiet (fail)
  go_wp2
  go_ret
  exact qret nq
set_option maxHeartbeats 1600000 in
theorem place_o {q b mb : Nat} {tv : Value} {L : Lg} {n : Int} (w : World) (h : LgB w q b mb tv L) (hok : LgOk L n) (i : Int) (hi : 0 ≤ i) :
    Calls Try.prog 54 #[.pointer (some ⟨q, 0, none⟩), .int .i64 i] w (QRet w (.tuple #[.int .i64 (L.base + i % L.size), .int .i64 (L.base + i % L.size + L.size)])) := by
  obtain ⟨c0, c1, c2, c3, c4, c5⟩ := h.cells
  have h2 := hok.size
  have h4 := hok.fit
  have h5 := hok.base
  have h6 := hok.big
  have e1 : 0 ≤ i % L.size := Int.emod_nonneg _ (by omega)
  have e2 : i % L.size < L.size := Int.emod_lt_of_pos _ (by omega)
  have e3 : i.tmod L.size = i % L.size := Int.tmod_eq_emod_of_nonneg hi
  clear h hok
  generalize i % L.size = r at e1 e2 e3 ⊢
  go_enter Try.func54, Try.ntmps54
  go_wp2
  go_quiet (fail)
  go_wp2
  go_quiet (fail)
  go_wp2
  go_ret2
  exact ⟨rfl, _, World.drewN_drewN _ _ _⟩
/-- An entry's term, as the log keeps it. -/
def Lg.term (L : Lg) (i : Int) : Int := if i < L.first ∨ L.last < i then 0 else L.terms.getD (i - L.first).toNat 0
theorem term_nil (w : World) (i : Int) : Calls Try.prog 33 #[.pointer none, .int .i64 i] w (QRet w (.int .i64 0)) := by
  go_enter Try.func33, Try.ntmps33
  go_wp2
  go_ret
  exact qret0
set_option maxHeartbeats 3200000 in
theorem term_o {q b mb : Nat} {tv : Value} {L : Lg} {n : Int} (w : World) (h : LgB w q b mb tv L) (hok : LgOk L n) (ht : Own w 3 1 tv L.terms.length (ints L.terms)) (i : Int) :
    Calls Try.prog 33 #[.pointer (some ⟨q, 0, none⟩), .int .i64 i] w (QRet w (.int .i64 (L.term i))) := by
  obtain ⟨a, c, rfl⟩ := Rd.isSlice ht.rd
  have cl := last_o w h hok ⟨a, c, rfl⟩
  obtain ⟨c0, c1, c2, c3, c4, c5⟩ := h.cells
  have h1 := hok.first
  have h2 := hok.firstb
  have h3 := hok.len
  have h4 := hok.fit
  have h5 := hok.base
  have h6 := hok.big
  clear h hok
  go_enter Try.func33, Try.ntmps33
  by_cases hi1 : i < L.first
  · have e : L.term i = 0 := by unfold Lg.term; rw [if_pos (.inl hi1)]
    rw [e]
    clear cl
    go_wp2
    go_ret
    exact qret0
  · by_cases hi2 : L.last < i
    · have e : L.term i = 0 := by unfold Lg.term; rw [if_pos (.inr hi2)]
      rw [e]
      go_wp2_with fail
      refine cl.mono ?_
      rintro e w1 ⟨rfl, m, rfl⟩
      go_wp2
      go_ret
      exact qret m
    · obtain ⟨k, hk⟩ : ∃ k : Nat, i - L.first = (k : Int) := ⟨(i - L.first).toNat, by omega⟩
      have hkl : k < L.terms.length := by unfold Lg.last at hi2; omega
      have e : L.term i = L.terms[k] := by
        unfold Lg.term
        rw [if_neg (by omega), hk]
        simp [List.getD, hkl]
      rw [e]
      obtain ⟨g, off, rfl, hgw, hc⟩ := ht.rd.view (by omega)
      have hcc := hc k (.int .i64 L.terms[k]) (by simp [ints, List.getElem?_eq_getElem hkl])
      generalize L.terms[k] = y at hcc ⊢
      have hi2' : i ≤ L.last := by omega
      obtain ⟨M, hM⟩ : ∃ M, M = L.last := ⟨_, rfl⟩
      rw [← hM] at cl hi2 hi2'
      clear e hc ht hM
      go_wp2_with fail
      refine cl.mono ?_
      rintro e w1 ⟨rfl, m, rfl⟩
      go_wp2
      go_quiet (fail)
      go_wp2
      go_ret
      exact ⟨rfl, _, World.drewN_drewN _ _ _⟩
end Go.Proofs.Ytmjgbkepngeckaa
namespace Go.Proofs.Ytmjgbkepngeckaa
open Go.RowKit
set_option linter.unusedVariables false
set_option linter.unusedSimpArgs false

/-- An entry. -/
structure Ent where
  idx : Int
  term : Int
  data : List UInt8
def Ent.zero : Ent := ⟨0, 0, []⟩
def Ent.cells (e : Ent) : List Value := [.int .i64 e.idx, .int .i64 e.term, str e.data]
def Ent.val (e : Ent) : Value := .agg #[.int .i64 e.idx, .int .i64 e.term, str e.data]
/-- What look answers: the entry, and 0 gone, 1 good, 2 hurt, 3 unknown. -/
def lookP (V : Int → Sl) (a bb i : Int) : Ent × Int :=
  if (V a).1 = 1 ∧ (V a).2.kind = 2 ∧ (V a).2.idx = i then (⟨i, (V a).2.term, (V a).2.data⟩, 1)
  else if (V a).1 ≠ 2 then (Ent.zero, 0)
  else if (V bb).1 = 1 ∧ (V bb).2.kind = 3 ∧ (V bb).2.idx = i then (⟨i, (V bb).2.term, []⟩, 2)
  else if (V bb).1 = 2 then (⟨i, 0, []⟩, 3)
  else (Ent.zero, 0)
def Lg.a (L : Lg) (i : Int) : Int := L.base + i % L.size
def Lg.b (L : Lg) (i : Int) : Int := L.base + i % L.size + L.size
def Lg.look (L : Lg) (V : Int → Sl) (i : Int) : Ent × Int := lookP V (L.a i) (L.b i) i
theorem LgOk.ab {L : Lg} {n : Int} (h : LgOk L n) (i : Int) : 0 ≤ L.a i ∧ L.a i < n ∧ 0 ≤ L.b i ∧ L.b i < n ∧ L.a i < L.base + L.size ∧ L.base + L.size ≤ L.b i := by
  have h2 := h.size
  have h4 := h.fit
  have h5 := h.base
  have e1 : 0 ≤ i % L.size := Int.emod_nonneg _ (by omega)
  have e2 : i % L.size < L.size := Int.emod_lt_of_pos _ (by omega)
  unfold Lg.a Lg.b
  omega
theorem LgAt.sread {w0 w : World} {q b mb : Nat} {tv : Value} {D : Dv} {L : Lg} {n : Int} {V : Int → Sl} {s : Nat} {O : List Nat} (h : LgAt w0 w q b mb tv D L n V s O) (w' : World) (hx : Ext [] w w') (k : Int) (h1 : 0 ≤ k) (h2 : k < n) :
    Calls Try.prog 15 #[.pointer (some ⟨b, 0, none⟩), .int .i64 k] w' fun e w2 => e = .returned (.tuple #[(V k).2.val, .int .i64 (V k).1, .int .i64 0]) ∧ Ext [] w' w2 := by
  obtain ⟨g1, g2, g3⟩ := h.fine.read h1 h2
  refine (sread_o b D k w0 w' _ (h.dev.keep hx)).mono ?_
  rintro e w2 ⟨rfl, -, hx2⟩
  rw [g1, g2, g3]
  exact ⟨rfl, hx2⟩
theorem Ent.blk (w : World) : Blk (w.alloc (.cells #[.int .i64 0, .int .i64 0, .string ⟨#[]⟩] 37)) w.heap.size 37 Ent.zero.cells := Blk.new w 37 #[.int .i64 0, .int .i64 0, .string ⟨#[]⟩]
set_option maxRecDepth 100000 in
set_option maxHeartbeats 6400000 in
theorem look_o {w0 w : World} {q b mb : Nat} {tv : Value} {D : Dv} {L : Lg} {n : Int} {V : Int → Sl} {s : Nat} {O : List Nat} (h : LgAt w0 w q b mb tv D L n V s O) (i : Int) (hi : 0 ≤ i) :
    Calls Try.prog 40 #[.pointer (some ⟨q, 0, none⟩), .int .i64 i] w fun e w' => e = .returned (.tuple #[(L.look V i).1.val, .int .i64 (L.look V i).2, .int .i64 0]) ∧ Ext [] w w' := by
  obtain ⟨a1, a2, b1, b2, -, -⟩ := h.ok.ab i
  have cp := fun w' (hx : Ext [] w w') => place_o w' (Blk.keep h.blk hx (by simp)) h.ok i hi
  have ca := fun w' (hx : Ext [] w w') => h.sread w' hx (L.a i) a1 a2
  have cb := fun w' (hx : Ext [] w w') => h.sread w' hx (L.b i) b1 b2
  have HB := Hid.of (fun w' (hx : Ext [] w w') => (LgB.cells (Blk.keep h.blk hx (by simp) : LgB w' q b mb tv L)).1)
  obtain ⟨R, hR⟩ : ∃ R, R = L.look V i := ⟨_, rfl⟩
  have HR : Hid (R = if (V (L.a i)).1 = 1 ∧ (V (L.a i)).2.kind = 2 ∧ (V (L.a i)).2.idx = i then (⟨i, (V (L.a i)).2.term, (V (L.a i)).2.data⟩, 1)
    else if (V (L.a i)).1 ≠ 2 then (Ent.zero, 0)
    else if (V (L.b i)).1 = 1 ∧ (V (L.b i)).2.kind = 3 ∧ (V (L.b i)).2.idx = i then (⟨i, (V (L.b i)).2.term, []⟩, 2)
    else if (V (L.b i)).1 = 2 then (⟨i, 0, []⟩, 3)
    else (Ent.zero, 0)) := hR
  rw [← hR]
  obtain ⟨g1, g2, g3⟩ := h.fine.sound a1 a2
  obtain ⟨f1, f2, f3⟩ := h.fine.sound b1 b2
  clear g2 g3 f2 f3 h hR a1 a2 b1 b2
  obtain ⟨A, hA⟩ : ∃ x, x = L.a i := ⟨_, rfl⟩
  obtain ⟨B, hB⟩ : ∃ x, x = L.b i := ⟨_, rfl⟩
  have cp' : ∀ w', Ext [] w w' → Calls Try.prog 54 #[.pointer (some ⟨q, 0, none⟩), .int .i64 i] w' (QRet w' (.tuple #[.int .i64 A, .int .i64 B])) := by rw [hA, hB]; exact cp
  rw [← hA] at ca HR g1
  rw [← hB] at cb HR f1
  clear cp hA hB
  generalize V A = Sa at ca HR g1
  generalize V B = Sb at cb HR f1
  obtain ⟨s1, k1, i1, t1, d1⟩ := Sa
  obtain ⟨s2, k2, i2, t2, d2⟩ := Sb
  simp only [Rc.val] at ca cb HR g1 f1
  go_enter Try.func40, Try.ntmps40
  obtain ⟨E, hE⟩ : ∃ E, E = w.heap.size := ⟨_, rfl⟩
  obtain ⟨W, hW⟩ : ∃ W, W = w.alloc (.cells #[.int .i64 0, .int .i64 0, .string ⟨#[]⟩] 37) := ⟨_, rfl⟩
  have HE : Hid (Blk W E 37 Ent.zero.cells) := Hid.of (by rw [hE, hW]; exact Ent.blk w)
  have HX : Hid (Ext [] w W) := Hid.of (by rw [hW]; exact (Ext.refl _ _).alloc _)
  have HN : Hid (w.heap.size ≤ E) := Hid.of (by omega)
  go_upto_region 1 with fail
  rw [← hE, ← hW]
  clear hE hW
  go_upto_region 4 with (first
    | (go_at_call 54; (with_reducible refine (cp' _ HX.out).mono ?_); intro e w1 hq; obtain ⟨rfl, hx1⟩ := QRet.ext hq; have HX1 := Hid.of (HX.out.then0 hx1); have HE1 := Hid.of (Blk.keep HE.out hx1 (by simp)); have c0 := HB.out w1 HX1.out; clear hq hx1 cp')
    | (go_at_call 15; (with_reducible refine (ca _ HX1.out).mono ?_); rintro e w2 ⟨rfl, hx2⟩; have HX2 := Hid.of (HX1.out.then0 hx2); have HE2 := Hid.of (Blk.keep HE1.out hx2 (by simp)); clear hx2 ca c0; have x3 : Ext [] w2 (w2.alloc (.cells #[.int .i64 k1, .int .i64 i1, .int .i64 t1, str d1] 39)) := (Ext.refl _ _).alloc _; have HX3 := Hid.of (HX2.out.then0 x3); have HE3 := Hid.of (Blk.keep HE2.out x3 (by simp)); have HA3 := Hid.of (RcAt.new w2 k1 i1 t1 d1); have c0 := HB.out _ HX3.out; clear x3)
    | (go_at_call 15; (with_reducible refine (cb _ HX3.out).mono ?_); rintro e w4 ⟨rfl, hx4⟩; have HX4 := Hid.of (HX3.out.then0 hx4); have HE4 := Hid.of (Blk.keep HE3.out hx4 (by simp)); have HA4 := Hid.of (HA3.out.keep hx4); clear hx4 cb c0))
  obtain ⟨W5, hW5⟩ : ∃ W, W = w4.alloc (.cells #[.int .i64 k2, .int .i64 i2, .int .i64 t2, str d2] 39) := ⟨_, rfl⟩
  have x5 : Ext [] w4 W5 := by rw [hW5]; exact (Ext.refl _ _).alloc _
  have HX5 := Hid.of (HX4.out.then0 x5)
  have HE5 := Hid.of (Blk.keep HE4.out x5 (by simp))
  have HA5 := Hid.of (HA4.out.keep x5)
  have HB5 : Hid (RcAt W5 w4.heap.size ⟨k2, i2, t2, d2⟩) := Hid.of (by rw [hW5]; exact RcAt.new w4 k2 i2 t2 d2)
  rw [← hW5]
  generalize w4.heap.size = rb at HB5 ⊢
  generalize w2.heap.size = ra at HA5 ⊢
  have qb0 := HB5.out.c0
  have qb1 := HB5.out.c1
  have qb2 := HB5.out.c2
  have qa0 := HA5.out.c0
  have qa1 := HA5.out.c1
  have qa2 := HA5.out.c2
  have qa3 := HA5.out.c3
  simp only at qb0 qb1 qb2 qa0 qa1 qa2 qa3
  have e0 : W5.cell? ⟨E, 0, none⟩ = some (.int .i64 0) := Blk.c HE5.out 0
  have e1 : W5.cell? ⟨E, 1, none⟩ = some (.int .i64 0) := Blk.c HE5.out 1
  have e2 : W5.cell? ⟨E, 2, none⟩ = some (.string ⟨#[]⟩) := Blk.c HE5.out 2
  have z0 := fun j => Blk.f HE5.out j
  have hEl := Blk.lt HE5.out
  clear x5 hW5 HX HX1 HX2 HX3 HX4 HE HE1 HE2 HE3 HE4 HA3 HA4 HB
  obtain ⟨M, hM⟩ : ∃ M, M = decide (s2 = 1 ∧ k2 = 3 ∧ i2 = i) := ⟨_, rfl⟩
  go_cut [15] (fun v wx => v = .bool M ∧ wx = W5)
  case first =>
    by_cases h1 : s2 = 1
    · by_cases h2 : k2 = 3
      · by_cases h3 : i2 = i
        · obtain rfl : M = true := by rw [hM]; simp [h1, h2, h3]
          clear hM HR
          go_wp2
          go_meet
          exact ⟨rfl, rfl⟩
        · obtain rfl : M = false := by rw [hM]; simp [h3]
          have h3b : (i2 == i) = false := by simp [h3]
          clear hM HR
          go_wp2
          go_meet
          exact ⟨rfl, rfl⟩
      · obtain rfl : M = false := by rw [hM]; simp [h2]
        have h2b : (k2 == 3) = false := by simp [h2]
        clear hM HR
        go_wp2
        go_meet
        exact ⟨rfl, rfl⟩
    · obtain rfl : M = false := by rw [hM]; simp [h1]
      have h1b : (s2 == 1) = false := by simp [h1]
      clear hM HR
      go_wp2
      go_meet
      exact ⟨rfl, rfl⟩
  case rest =>
    obtain ⟨rfl, hwc⟩ := hcut
    subst hwc
    have hx9 := HX5.out
    have hN := HN.out
    -- the answer's cells, set
    have hfin : ∀ (x t : Int) (d : ByteArray), Ext [] w ((((wc.setCell ⟨E, 0, none⟩ (.int .i64 x)).setCell ⟨E, 1, none⟩ (.int .i64 t)).setCell ⟨E, 2, none⟩ (.string d))) := fun x t d => ((hx9.setCell (.inr hN) _).setCell (.inr hN) _).setCell (.inr hN) _
    have HFin := Hid.of hfin
    clear hfin hx9 hN HX5 HE5 HA5 HB5 HN
    by_cases h1 : s1 = 1
    · by_cases h2 : k1 = 2
      · by_cases h3 : i1 = i
        · have hR := HR.out
          rw [if_pos ⟨h1, h2, h3⟩] at hR
          have HR2 := Hid.of hR
          clear HR hM hR
          go_wp2
          refine bodyPost_ret (v := .tuple #[.agg #[.int .i64 i, .int .i64 t1, str d1], .int .i64 1, .int .i64 0]) (by simp [results, Try.results40, go_sem, e0, e1, e2, hEl]) rfl ?_
          rw [HR2.out]
          exact ⟨rfl, HFin.out _ _ _⟩
        · have h3b : (i1 == i) = false := by simp [h3]
          have hR := HR.out
          rw [if_neg (fun h => h3 h.2.2), if_pos (by rw [h1]; decide)] at hR
          have HR2 := Hid.of hR
          clear HR hM hR
          go_wp2
          refine bodyPost_ret (v := .tuple #[.agg #[.int .i64 0, .int .i64 0, .string ⟨#[]⟩], .int .i64 0, .int .i64 0]) (by simp [results, Try.results40, go_sem, e0, e1, e2, hEl]) rfl ?_
          rw [HR2.out]
          exact ⟨rfl, HFin.out _ _ _⟩
      · have h2b : (k1 == 2) = false := by simp [h2]
        have hR := HR.out
        rw [if_neg (fun h => h2 h.2.1), if_pos (by rw [h1]; decide)] at hR
        have HR2 := Hid.of hR
        clear HR hM hR
        go_wp2
        refine bodyPost_ret (v := .tuple #[.agg #[.int .i64 0, .int .i64 0, .string ⟨#[]⟩], .int .i64 0, .int .i64 0]) (by simp [results, Try.results40, go_sem, e0, e1, e2, hEl]) rfl ?_
        rw [HR2.out]
        exact ⟨rfl, HFin.out _ _ _⟩
    · have h1b : (s1 == 1) = false := by simp [h1]
      have hR := HR.out
      rw [if_neg (fun h => h1 h.1)] at hR
      by_cases h2 : s1 = 2
      · rw [if_neg (fun h => h h2)] at hR
        cases M with
        | true =>
          have hM2 := of_decide_eq_true hM.symm
          rw [if_pos hM2] at hR
          have HR2 := Hid.of hR
          clear HR hM hR hM2
          go_wp2
          refine bodyPost_ret (v := .tuple #[.agg #[.int .i64 i, .int .i64 t2, .string ⟨#[]⟩], .int .i64 2, .int .i64 0]) (by simp [results, Try.results40, go_sem, e0, e1, e2, hEl]) rfl ?_
          rw [HR2.out]
          exact ⟨rfl, HFin.out _ _ _⟩
        | false =>
          have hM2 := of_decide_eq_false hM.symm
          rw [if_neg hM2] at hR
          by_cases h5 : s2 = 2
          · rw [if_pos h5] at hR
            have HR2 := Hid.of hR
            clear HR hM hR hM2
            go_wp2
            refine bodyPost_ret (v := .tuple #[.agg #[.int .i64 i, .int .i64 0, .string ⟨#[]⟩], .int .i64 3, .int .i64 0]) (by simp [results, Try.results40, go_sem, e0, e1, e2, hEl]) rfl ?_
            rw [HR2.out]
            exact ⟨rfl, HFin.out _ _ _⟩
          · rw [if_neg h5] at hR
            have h5b : (s2 == 2) = false := by simp [h5]
            have HR2 := Hid.of hR
            clear HR hM hR hM2
            go_wp2
            refine bodyPost_ret (v := .tuple #[.agg #[.int .i64 0, .int .i64 0, .string ⟨#[]⟩], .int .i64 0, .int .i64 0]) (by simp [results, Try.results40, go_sem, e0, e1, e2, hEl]) rfl ?_
            rw [HR2.out]
            exact ⟨rfl, HFin.out _ _ _⟩
      · rw [if_pos h2] at hR
        have h2b : (s1 == 2) = false := by simp [h2]
        have HR2 := Hid.of hR
        clear HR hM hR
        go_wp2
        refine bodyPost_ret (v := .tuple #[.agg #[.int .i64 0, .int .i64 0, .string ⟨#[]⟩], .int .i64 0, .int .i64 0]) (by simp [results, Try.results40, go_sem, e0, e1, e2, hEl]) rfl ?_
        rw [HR2.out]
        exact ⟨rfl, HFin.out _ _ _⟩
end Go.Proofs.Ytmjgbkepngeckaa
namespace Go.Proofs.Ytmjgbkepngeckaa
open Go.RowKit
set_option linter.unusedVariables false
set_option linter.unusedSimpArgs false

theorem LgM.turn {w0 w w' : World} {q b mb : Nat} {tv tv' : Value} {D : Dv} {L L' : Lg} {n : Int} {O : List Nat} (h : LgM w0 w q b mb tv D L n O)
    (hx : Ext (q :: mb :: vblocks tv) w w') (hblk : LgB w' q b mb tv' L') (hterms : Own w' 3 1 tv' L'.terms.length (ints L'.terms)) (hhurt : MapAt w' mb (hurtF L'.hurt)) (hok : LgOk L' n)
    (hnew : ∀ z ∈ vblocks tv', z ∈ vblocks tv ∨ w.heap.size ≤ z) : LgM w0 w' q b mb tv' D L' n O ∧ Kept O w w' := by
  have hql := Blk.lt h.blk
  have hml := h.hurt.lt
  have hlt := hterms.lt
  have hx0 := h.dev.ext.size
  have holt := h.dev.lt
  refine ⟨⟨hblk, hterms, hhurt, ?_, hok, h.ne, fun hm => ?_, fun hm => ?_, fun z hz => ?_, h.newq, h.newm, fun z hz => ?_⟩, fun z hz o ho => ?_⟩
  · obtain ⟨⟨F, hF, hl, ho⟩, h3, h4⟩ := h.dev
    obtain ⟨F', hF', hs⟩ := hF.small
    refine ⟨⟨F', hF'.keep hx (fun k hk hm => ?_), fun k hk => hl k (hs k hk).1, fun p hp => ?_⟩, h3.trans hx (fun z hz => .inr ?_), h4⟩
    · refine (ho k ?_).1 (hs k hk).1
      simp only [List.mem_cons, List.mem_append] at hm ⊢
      rcases hm with h | h | h
      · exact .inl h
      · exact .inr (.inl h)
      · exact .inr (.inr (.inl h))
    · have hold : p ∈ (q :: mb :: (vblocks tv ++ O)) ∨ (w.heap.size ≤ p ∧ p < w'.heap.size) := by
        simp only [List.mem_cons, List.mem_append] at hp ⊢
        rcases hp with h | h | h | h
        · exact .inl (.inl h)
        · exact .inl (.inr (.inl h))
        · rcases hnew p h with h2 | h2
          · exact .inl (.inr (.inr (.inl h2)))
          · exact .inr ⟨h2, hlt p h⟩
        · exact .inl (.inr (.inr (.inr h)))
      rcases hold with h | h
      · exact ⟨fun hm => (ho p h).1 (hs _ hm).1, Nat.lt_of_lt_of_le (ho p h).2 hx.size⟩
      · exact ⟨fun hm => by have := (hs _ hm).2; omega, h.2⟩
    · simp only [List.mem_cons] at hz
      rcases hz with rfl | rfl | hz
      · exact h.newq
      · exact h.newm
      · exact h.newt z hz
  · rcases hnew q hm with h2 | h2
    · exact h.neq h2
    · omega
  · rcases hnew mb hm with h2 | h2
    · exact h.nem h2
    · omega
  · obtain ⟨g1, g2, g3⟩ := h.out z hz
    refine ⟨g1, g2, fun hm => ?_⟩
    have hzl := holt z (by simp [hz])
    rcases hnew z hm with h2 | h2
    · exact g3 h2
    · omega
  · rcases hnew z hz with h2 | h2
    · exact h.newt z h2
    · omega
  · obtain ⟨g1, g2, g3⟩ := h.out z hz
    exact hx.heap (by simp [g1, g2, g3]) ho
theorem kept_less {O O' : List Nat} {w w' : World} (h : Kept O w w') (hs : ∀ q ∈ O', q ∈ O) : Kept O' w w' := fun q hq o ho => h q (hs q hq) o ho
/-- A device's call beside a log. -/
theorem LgM.devt {w0 w w' : World} {q b mb : Nat} {tv : Value} {D D' : Dv} {L : Lg} {n : Int} {O : List Nat} (h : LgM w0 w q b mb tv D L n O)
    (hd : DevO w0 w' b D' (q :: mb :: (vblocks tv ++ O))) (hk : Kept (q :: mb :: (vblocks tv ++ O)) w w') : LgM w0 w' q b mb tv D' L n O ∧ Kept O w w' := by
  have hke : ∀ z ∈ vblocks tv, ∀ o, w.heap[z]? = some o → w'.heap[z]? = some o := fun z hz => hk z (by simp [hz])
  refine ⟨⟨hk q (by simp) _ h.blk, ?_, ?_, hd, h.ok, h.ne, h.neq, h.nem, h.out, h.newq, h.newm, h.newt⟩, kept_less hk (fun z hz => by simp [hz])⟩
  · obtain ⟨h1, h2⟩ := h.terms
    refine ⟨h1, ?_⟩
    rcases h2 with h2 | ⟨g, off, cap, cur, fz, rfl, hg, h3⟩
    · exact .inl h2
    · exact .inr ⟨g, off, cap, cur, fz, rfl, hke g (by simp [vblocks]) _ hg, h3⟩
  · obtain ⟨es, clock, hb, h2⟩ := h.hurt
    exact ⟨es, clock, hk mb (by simp) _ hb, h2⟩
theorem hurtF_set (h : Int → Bool) (i : Int) : (fun x => if x = i then some (.bool true) else hurtF h x) = hurtF (setF h i true) := by
  funext x
  unfold hurtF setF
  by_cases hx : x = i <;> simp [hx]
theorem hurtF_del (h : Int → Bool) (i : Int) : (fun x => if x = i then none else hurtF h x) = hurtF (setF h i false) := by
  funext x
  unfold hurtF setF
  by_cases hx : x = i <;> simp [hx]
section
variable {P : Program} {w : World} {b : Nat} {f : Int → Option Value} {t k e : TypeId}
theorem wpl_mapsetA {ops : Array Oper} {rest : List Oper} {a : Act} {Q : Exit → Act → World → Prop} {d : Option Tmp} {m x v : Operand} {ty : TypeId} {pos : String} {after : Array Edge}
    (ht : P.underlying t = some (.map k e)) (hk : P.underlying k = some (.int .i64)) (h : MapAt w b f) (n : Int) (u : Value)
    (hm : a.eval m = .map (some b)) (hx : a.eval x = .int .i64 n) (hv : a.eval v = u)
    (hK : ∀ w', MapAt w' b (fun x => if x = n then some u else f x) → Ext [b] w w' → wpList P ops Q rest (a.put d undef) w') :
    wpList P ops Q (⟨d, .mapUpdate t m x v, ty, pos, after, none⟩ :: rest) a w := by
  refine wpList_plain rfl fun K' hK' => ?_
  obtain ⟨w', hrun, r1, r2⟩ := h.update ht hk n u
  unfold Oper.wp
  simp [execOp, hm, hx, hv, hrun, Result.andThen]
  exact hK' _ _ (hK w' r1 r2)
theorem wpl_mapdelA {ops : Array Oper} {rest : List Oper} {a : Act} {Q : Exit → Act → World → Prop} {d : Option Tmp} {m x : Operand} {ty : TypeId} {pos : String} {after : Array Edge}
    (ht : P.underlying t = some (.map k e)) (hk : P.underlying k = some (.int .i64)) (h : MapAt w b f) (n : Int)
    (hm : a.eval m = .map (some b)) (hx : a.eval x = .int .i64 n)
    (hK : ∀ w', MapAt w' b (fun x => if x = n then none else f x) → Ext [b] w w' → wpList P ops Q rest (a.put d (.tuple #[])) w') :
    wpList P ops Q (⟨d, .call { callee := .builtin .delete, args := #[m, x], argTypes := #[t, k] }, ty, pos, after, none⟩ :: rest) a w := by
  refine wpList_plain rfl fun K' hK' => ?_
  obtain ⟨w', hrun, r1, r2⟩ := h.delete ht hk n ty
  unfold Oper.wp
  simp [execOp, resolve, invoke, builtin, hm, hx, hrun, Result.andThen]
  exact hK' _ _ (hK w' r1 r2)
end
/-- What Hurt answers. -/
def HurtIs (h : Int → Bool) (r : Int) : Prop := (r = 0 ∧ ∀ i, h i = false) ∨ (h r = true ∧ ∀ i, h i = true → r ≤ i)
theorem hurt_nil (w : World) : Calls Try.prog 19 #[.pointer none] w (QRet w (.int .i64 0)) := by
  go_enter Try.func19, Try.ntmps19
  go_wp2
  go_ret
  exact qret0
set_option maxRecDepth 100000 in
set_option maxHeartbeats 3200000 in
theorem hurt_m {w : World} {q b mb : Nat} {tv : Value} {L : Lg} {n : Int} (hB : LgB w q b mb tv L) (hm : MapAt w mb (hurtF L.hurt)) (hok : LgOk L n) :
    Calls Try.prog 19 #[.pointer (some ⟨q, 0, none⟩)] w fun e w' => (∃ r, HurtIs L.hurt r ∧ e = .returned (.int .i64 r)) ∧ Ext [] w w' := by
  obtain ⟨c0, c1, c2, c3, c4, c5⟩ := hB.cells
  have hpos := hok.hurt
  have HP := Hid.of hpos
  clear hB hok c0 c1 c2 c3 c4 hpos
  go_enter Try.func19, Try.ntmps19
  go_wp2_with (first | (at_range; refine wpl_maprange Try.underlying84 hm rfl ?_; intro w1 cnt hit hx1 hlt1))
  go_frame
  obtain ⟨r, hr⟩ : ∃ r, r = w.heap.size := ⟨_, rfl⟩
  rw [← hr] at hit hlt1
  have hrw : w.heap.size ≤ r := by omega
  rw [← hr]
  clear hr hm c5
  go_loopw [3] (fun u3 wr => ∃ (l : Int) (left : Int → Prop) (c : Nat), u3 = .int .i64 l ∧ MapIt wr mb r (hurtF L.hurt) left c ∧ Hid ((l = 0 ∧ ∀ i, L.hurt i = true → left i) ∨ (L.hurt l = true ∧ ∀ i, L.hurt i = true → ¬ left i → l ≤ i)) ∧ Hid (Ext [] w wr)) (fun _ wr => itLeft wr mb r)
  case atStart => exact ⟨0, _, cnt, rfl, hit, .inl ⟨rfl, fun i hi => by simp [hurtF, hi]⟩, hx1⟩
  case round =>
    clear hit hlt1 hx1
    obtain ⟨l, left, c, rfl, hit, hl, hX⟩ := hrel
    go_wp2_with (at_next; refine wpl_mapnext hit rfl ?_ ?_)
    · intro hl0
      go_wp2
      go_ret
      refine ⟨⟨l, ?_, rfl⟩, hX.out⟩
      rcases hl.out with ⟨rfl, h2⟩ | ⟨h1, h2⟩
      · refine .inl ⟨rfl, fun i => ?_⟩
        cases hi : L.hurt i with
        | false => rfl
        | true => exact absurd (h2 i hi) (hl0 i)
      · exact .inr ⟨h1, fun i hi => h2 i hi (hl0 i)⟩
    · intro x v w1 c' hlx hfx hit1 hltc hx1 hen
      have hx : L.hurt x = true := by
        unfold hurtF at hfx
        split at hfx
        · assumption
        · cases hfx
      have hX1 : Hid (Ext [] w w1) := hX.out.trans hx1 (fun z hz => .inr (by simp at hz; omega))
      have hxp := (HP.out x hx).1
      have hcn := hit.cnt
      have hcn1 := hit1.cnt
      have HM : Hid (itLeft w1 mb r < itLeft wr mb r) := by show _ < _; rw [hcn, hcn1]; exact hltc
      have hit1' := Hid.of hit1
      clear hfx hx1 hit hit1 hX hltc hcn hcn1 hlx
      by_cases h0 : l = 0
      · subst h0
        go_wp2
        refine ⟨⟨x, _, c', rfl, hit1'.out, .inr ⟨hx, fun i hi hni => ?_⟩, hX1.out⟩, HM.out⟩
        rcases hl.out with ⟨_, h2⟩ | ⟨h1, h2⟩
        · have := h2 i hi
          by_cases hix : i = x
          · omega
          · exact absurd ⟨this, hix⟩ hni
        · have := (HP.out 0 h1).1; omega
      · have h0b : (l == 0) = false := by simp [h0]
        have hl1 : L.hurt l = true ∧ ∀ i, L.hurt i = true → ¬ left i → l ≤ i := hl.out.resolve_left (fun h => h0 h.1)
        have HL := Hid.of hl1
        clear hl1 hl h0
        by_cases hlt : x < l
        · go_wp2
          refine ⟨⟨x, _, c', rfl, hit1'.out, .inr ⟨hx, fun i hi hni => ?_⟩, hX1.out⟩, HM.out⟩
          by_cases hix : i = x
          · omega
          · have := HL.out.2 i hi (fun h => hni ⟨h, hix⟩); omega
        · go_wp2
          refine ⟨⟨l, _, c', rfl, hit1'.out, .inr ⟨HL.out.1, fun i hi hni => ?_⟩, hX1.out⟩, HM.out⟩
          by_cases hix : i = x
          · omega
          · exact HL.out.2 i hi (fun h => hni ⟨h, hix⟩)
theorem hurt_o {w0 w : World} {q b mb : Nat} {tv : Value} {D : Dv} {L : Lg} {n : Int} {V : Int → Sl} {s : Nat} {O : List Nat} (h : LgAt w0 w q b mb tv D L n V s O) :
    Calls Try.prog 19 #[.pointer (some ⟨q, 0, none⟩)] w fun e w' => (∃ r, HurtIs L.hurt r ∧ e = .returned (.int .i64 r)) ∧ Ext [] w w' := hurt_m h.blk h.hurt h.ok
end Go.Proofs.Ytmjgbkepngeckaa
namespace Go.Proofs.Ytmjgbkepngeckaa
open Go.RowKit
set_option linter.unusedVariables false
set_option linter.unusedSimpArgs false

/-- What Read finds good. -/
def Lg.good (L : Lg) (V : Int → Sl) (i : Int) : Prop := (L.look V i).2 = 1 ∧ (L.term i = 0 ∨ (L.look V i).1.term = L.term i)
instance (L : Lg) (V : Int → Sl) (i : Int) : Decidable (L.good V i) := inferInstanceAs (Decidable (_ ∧ _))
def Lg.readA (L : Lg) (V : Int → Sl) (i : Int) : Ent × Int :=
  if i < L.first ∨ L.last < i then (Ent.zero, 0) else if L.good V i then ((L.look V i).1, 1) else if 0 < L.term i then (⟨i, L.term i, []⟩, 2) else (⟨i, 0, []⟩, 3)
def Lg.readL (L : Lg) (V : Int → Sl) (i : Int) : Lg :=
  if i < L.first ∨ L.last < i then L else if L.good V i then L else { L with hurt := setF L.hurt i true }
theorem read_nil (w : World) (i : Int) : Calls Try.prog 18 #[.pointer none, .int .i64 i] w fun e w' => e = .returned (.tuple #[Ent.zero.val, .int .i64 0]) ∧ Ext [] w w' := by
  go_enter Try.func18, Try.ntmps18
  go_wp2
  refine bodyPost_ret (v := .tuple #[.agg #[.int .i64 0, .int .i64 0, .string ⟨#[]⟩], .int .i64 0]) (by simp [results, Try.results18, go_sem]) rfl ⟨rfl, ?_⟩
  exact (Ext.refl _ _).alloc _
theorem Lg.term_rng {L : Lg} {n : Int} (h : LgOk L n) (i : Int) : 0 ≤ L.term i ∧ L.term i ≤ 281474976710655 := by
  unfold Lg.term
  split
  · omega
  · rw [List.getD_eq_getElem?_getD]
    cases hg : L.terms[(i - L.first).toNat]? with
    | none => simp
    | some t => exact h.terms t (List.mem_of_getElem? hg)
theorem LgOk.setHurt {L : Lg} {n : Int} (h : LgOk L n) (i : Int) (h1 : 1 ≤ i) (h2 : i ≤ 2000000000) : LgOk { L with hurt := setF L.hurt i true } n :=
  ⟨h.base, h.size, h.fit, h.big, h.first, h.firstb, h.len, h.terms, fun k hk => by
    by_cases hki : k = i
    · subst hki; exact ⟨h1, h2⟩
    · exact h.hurt k (by rwa [show ({ L with hurt := setF L.hurt i true } : Lg).hurt k = setF L.hurt i true k from rfl, setF_other _ _ _ _ hki] at hk)⟩
set_option maxRecDepth 100000 in
set_option maxHeartbeats 12800000 in
theorem read_o {w0 w : World} {q b mb : Nat} {tv : Value} {D : Dv} {L : Lg} {n : Int} {V : Int → Sl} {s : Nat} {O : List Nat} (h : LgAt w0 w q b mb tv D L n V s O) (i : Int) :
    Calls Try.prog 18 #[.pointer (some ⟨q, 0, none⟩), .int .i64 i] w fun e w' => e = .returned (.tuple #[(L.readA V i).1.val, .int .i64 (L.readA V i).2]) ∧ LgAt w0 w' q b mb tv D (L.readL V i) n V s O ∧ Kept O w w' := by
  have HL := Hid.of (fun w' (hx : Ext [] w w') => h.keep hx)
  have h1 := h.ok.first
  have h2 := h.ok.firstb
  have h3 := h.ok.len
  have h4 := h.ok.fit
  have h5 := h.ok.base
  have h6 := h.ok.big
  have ht := Lg.term_rng h.ok i
  obtain ⟨E, hE⟩ : ∃ E, E = w.heap.size := ⟨_, rfl⟩
  obtain ⟨W, hW⟩ : ∃ W, W = w.alloc (.cells #[.int .i64 0, .int .i64 0, .string ⟨#[]⟩] 37) := ⟨_, rfl⟩
  have HE : Hid (Blk W E 37 Ent.zero.cells) := Hid.of (by rw [hE, hW]; exact Ent.blk w)
  have HX : Hid (Ext [] w W) := Hid.of (by rw [hW]; exact (Ext.refl _ _).alloc _)
  have hN : w.heap.size ≤ E := by omega
  have c3 := (HL.out W HX.out).blk.cells.2.2.2.1
  have cl := last_o W (HL.out W HX.out).blk (HL.out W HX.out).ok (by obtain ⟨a, c, e⟩ := Rd.isSlice (HL.out W HX.out).terms.rd; exact ⟨a, c, e⟩)
  have hqE : q ≠ E := by have := Blk.lt h.blk; omega
  have hmE : mb ≠ E := by have := h.hurt.lt; omega
  have htE : E ∉ vblocks tv := fun hm => by have := h.terms.lt _ hm; omega
  have hOE : ∀ z ∈ O, z ≠ E := fun z hz => by have := h.dev.lt z (by simp [hz]); omega
  obtain ⟨A, hAA⟩ : ∃ A, A = L.readA V i := ⟨_, rfl⟩
  obtain ⟨LL, hLL⟩ : ∃ A, A = L.readL V i := ⟨_, rfl⟩
  rw [← hAA, ← hLL]
  have HAA := Hid.of hAA
  have HLL := Hid.of hLL
  clear hAA hLL
  go_enter Try.func18, Try.ntmps18
  go_upto_region 1 with fail
  rw [← hE, ← hW]
  clear hE hW h
  by_cases hi1 : i < L.first
  · have HA : Hid (A = (Ent.zero, 0)) := Hid.of (HAA.out.trans (if_pos (.inl hi1)))
    have HL2 : Hid (LL = L) := Hid.of (HLL.out.trans (if_pos (.inl hi1)))
    have e0 : W.cell? ⟨E, 0, none⟩ = some (.int .i64 0) := Blk.c HE.out 0
    have e1 : W.cell? ⟨E, 1, none⟩ = some (.int .i64 0) := Blk.c HE.out 1
    have e2 : W.cell? ⟨E, 2, none⟩ = some (.string ⟨#[]⟩) := Blk.c HE.out 2
    have z0 := fun j => Blk.f HE.out j
    have hEl := Blk.lt HE.out
    clear cl
    go_wp2
    refine bodyPost_ret (v := .tuple #[.agg #[.int .i64 0, .int .i64 0, .string ⟨#[]⟩], .int .i64 0]) (by simp [results, Try.results18, go_sem, e0, e1, e2, hEl]) rfl ?_
    have hx : Ext [] w (((W.setCell ⟨E, 0, none⟩ (.int .i64 0)).setCell ⟨E, 1, none⟩ (.int .i64 0)).setCell ⟨E, 2, none⟩ (.string ⟨#[]⟩)) := ((HX.out.setCell (.inr hN) _).setCell (.inr hN) _).setCell (.inr hN) _
    exact ⟨by rw [HA.out]; rfl, by rw [HL2.out]; exact HL.out _ hx, Kept.of hx⟩
  · by_cases hi2 : L.last < i
    · have HA : Hid (A = (Ent.zero, 0)) := Hid.of (HAA.out.trans (if_pos (.inr hi2)))
      have HL2 : Hid (LL = L) := Hid.of (HLL.out.trans (if_pos (.inr hi2)))
      go_wp2_with (go_at_call 21; (with_reducible refine cl.mono ?_); intro e w1 hq; obtain ⟨rfl, hx1⟩ := QRet.ext hq; have HX1 := Hid.of (HX.out.then0 hx1); have HE1 := Hid.of (Blk.keep HE.out hx1 (by simp)); have e0 : w1.cell? ⟨E, 0, none⟩ = some (.int .i64 0) := Blk.c HE1.out 0; have e1 : w1.cell? ⟨E, 1, none⟩ = some (.int .i64 0) := Blk.c HE1.out 1; have e2 : w1.cell? ⟨E, 2, none⟩ = some (.string ⟨#[]⟩) := Blk.c HE1.out 2; have z0 := fun j => Blk.f HE1.out j; have hEl := Blk.lt HE1.out; clear hq hx1 cl)
      refine bodyPost_ret (v := .tuple #[.agg #[.int .i64 0, .int .i64 0, .string ⟨#[]⟩], .int .i64 0]) (by simp [results, Try.results18, go_sem, e0, e1, e2, hEl]) rfl ?_
      have hx : Ext [] w (((w1.setCell ⟨E, 0, none⟩ (.int .i64 0)).setCell ⟨E, 1, none⟩ (.int .i64 0)).setCell ⟨E, 2, none⟩ (.string ⟨#[]⟩)) := ((HX1.out.setCell (.inr hN) _).setCell (.inr hN) _).setCell (.inr hN) _
      exact ⟨by rw [HA.out]; rfl, by rw [HL2.out]; exact HL.out _ hx, Kept.of hx⟩
    · have hin : ¬ (i < L.first ∨ L.last < i) := by omega
      have HA : Hid (A = if L.good V i then ((L.look V i).1, 1) else if 0 < L.term i then (⟨i, L.term i, []⟩, 2) else (⟨i, 0, []⟩, 3)) := Hid.of (HAA.out.trans (if_neg hin))
      have HLr : Hid (LL = if L.good V i then L else { L with hurt := setF L.hurt i true }) := Hid.of (HLL.out.trans (if_neg hin))
      have hi0 : 0 ≤ i := by omega
      have hib : i ≤ 2000000000 := by unfold Lg.last at hi2; omega
      have HG : Hid (L.good V i ↔ (L.look V i).2 = 1 ∧ (L.term i = 0 ∨ (L.look V i).1.term = L.term i)) := Hid.of Iff.rfl
      have ck := fun w' (hx : Ext [] w w') => look_o (HL.out w' hx) i hi0
      have ct := fun w' (hx : Ext [] w w') => term_o w' (HL.out w' hx).blk (HL.out w' hx).ok (HL.out w' hx).terms i
      have hi2' : i ≤ L.last := by omega
      obtain ⟨x, hx⟩ : ∃ x, x = L.look V i := ⟨_, rfl⟩
      rw [← hx] at ck HA HG
      obtain ⟨t, ht'⟩ : ∃ x, x = L.term i := ⟨_, rfl⟩
      rw [← ht'] at ct HA HG ht
      have HT := Hid.of ht'
      obtain ⟨M, hM⟩ : ∃ x, x = L.last := ⟨_, rfl⟩
      rw [← hM] at cl hi2 hi2'
      clear hin hx ht' hM HAA HLL
      obtain ⟨⟨xi, xt, xd⟩, st⟩ := x
      simp only [Ent.val] at ck HG
      go_upto_region 6 with (first
        | (go_at_call 21; (with_reducible refine cl.mono ?_); intro e w1 hq; obtain ⟨rfl, hx1⟩ := QRet.ext hq; have HX1 := Hid.of (HX.out.then0 hx1); have HE1 := Hid.of (Blk.keep HE.out hx1 (by simp)); clear hq hx1 cl)
        | (go_at_call 40; (with_reducible refine (ck _ HX1.out).mono ?_); rintro e w2 ⟨rfl, hx2⟩; have HX2 := Hid.of (HX1.out.then0 hx2); have HE2 := Hid.of (Blk.keep HE1.out hx2 (by simp)); clear hx2 ck))
      obtain ⟨W3, hW3⟩ : ∃ W, W = w2.alloc (.cells #[.int .i64 xi, .int .i64 xt, str xd] 37) := ⟨_, rfl⟩
      have x3 : Ext [] w2 W3 := by rw [hW3]; exact (Ext.refl _ _).alloc _
      have HX3 := Hid.of (HX2.out.then0 x3)
      have HE3 := Hid.of (Blk.keep HE2.out x3 (by simp))
      have HY3 : Hid (Blk W3 w2.heap.size 37 [.int .i64 xi, .int .i64 xt, str xd]) := Hid.of (by rw [hW3]; exact Blk.new w2 37 #[.int .i64 xi, .int .i64 xt, str xd])
      rw [← hW3]
      generalize w2.heap.size = Y at HY3 ⊢
      have y0 : W3.cell? ⟨Y, 0, none⟩ = some (.int .i64 xi) := Blk.c HY3.out 0
      have y1 : W3.cell? ⟨Y, 1, none⟩ = some (.int .i64 xt) := Blk.c HY3.out 1
      have y2 : W3.cell? ⟨Y, 2, none⟩ = some (str xd) := Blk.c HY3.out 2
      have ct3 := fun j => ct (W3.drewN j) (HX3.out.then0 ((Ext.refl _ _).drewN j))
      clear x3 hW3 HX HX1 HX2 HE HE1 HE2
      have HN := Hid.of hN
      have hxt := HY3.out
      obtain ⟨M2, hM2⟩ : ∃ M, M = decide (st = 1 ∧ (t = 0 ∨ xt = t)) := ⟨_, rfl⟩
      have HM2 := Hid.of hM2
      clear hM2 hxt
      go_cut [52] (fun v wx => v = .bool M2 ∧ ∃ j, wx = W3.drewN j)
      case first =>
        by_cases g1 : st = 1
        · by_cases g2 : t = 0
          · obtain rfl : M2 = true := by rw [HM2.out]; simp [g1, g2]
            clear HM2 HA HLr HG
            subst g1
            subst g2
            go_quiet ((go_at_call 33; refine Calls.quiet_of (ct3 _)))
            go_wp2
            go_meet
            exact ⟨rfl, _, rfl⟩
          · have g2b : (t == 0) = false := by simp [g2]
            by_cases g3 : xt = t
            · obtain rfl : M2 = true := by rw [HM2.out]; simp [g1, g3]
              clear HM2 HA HLr HG
              subst g1
              subst g3
              go_quiet ((go_at_call 33; refine Calls.quiet_of (ct3 _)))
              go_wp2
              go_meet
              exact ⟨rfl, _, rfl⟩
            · obtain rfl : M2 = false := by rw [HM2.out]; simp [g2, g3]
              have g3b : (xt == t) = false := by simp [g3]
              clear HM2 HA HLr HG
              subst g1
              go_quiet ((go_at_call 33; refine Calls.quiet_of (ct3 _)))
              go_wp2
              go_meet
              exact ⟨rfl, _, rfl⟩
        · obtain rfl : M2 = false := by rw [HM2.out]; simp [g1]
          have g1b : (st == 1) = false := by simp [g1]
          clear HM2 HA HLr HG
          go_quiet (fail)
          go_wp2
          go_meet
          exact ⟨rfl, _, rfl⟩
      case rest =>
        obtain ⟨rfl, j, hwc⟩ := hcut
        have xw : Ext [] W3 wc := by rw [hwc]; exact (Ext.refl _ _).drewN j
        have HX4 := Hid.of (HX3.out.then0 xw)
        have HE4 := Hid.of (Blk.keep HE3.out xw (by simp))
        have HY4 := Hid.of (Blk.keep HY3.out xw (by simp))
        clear hwc xw y0 y1 y2 HX3 HE3 HY3 ct3 c3
        have e0 : wc.cell? ⟨E, 0, none⟩ = some (.int .i64 0) := Blk.c HE4.out 0
        have e1 : wc.cell? ⟨E, 1, none⟩ = some (.int .i64 0) := Blk.c HE4.out 1
        have e2 : wc.cell? ⟨E, 2, none⟩ = some (.string ⟨#[]⟩) := Blk.c HE4.out 2
        have z0 := fun j => Blk.f HE4.out j
        have hEl := Blk.lt HE4.out
        have hfin : ∀ (W : World) (x t : Int) (d : ByteArray), Ext [] w W → Ext [] w ((((W.setCell ⟨E, 0, none⟩ (.int .i64 x)).setCell ⟨E, 1, none⟩ (.int .i64 t)).setCell ⟨E, 2, none⟩ (.string d))) := fun W x t d hx => ((hx.setCell (.inr HN.out) _).setCell (.inr HN.out) _).setCell (.inr HN.out) _
        have HFin := Hid.of hfin
        clear hfin
        cases M2 with
        | true =>
          have hM2 := of_decide_eq_true HM2.out.symm
          have HA2 : Hid (A = (⟨xi, xt, xd⟩, 1)) := Hid.of (HA.out.trans (if_pos (HG.out.2 hM2)))
          have HL2 : Hid (LL = L) := Hid.of (HLr.out.trans (if_pos (HG.out.2 hM2)))
          have y0 : wc.cell? ⟨Y, 0, none⟩ = some (.int .i64 xi) := Blk.c HY4.out 0
          have y1 : wc.cell? ⟨Y, 1, none⟩ = some (.int .i64 xt) := Blk.c HY4.out 1
          have y2 : wc.cell? ⟨Y, 2, none⟩ = some (str xd) := Blk.c HY4.out 2
          clear HM2 hM2 HA HLr
          go_wp2
          refine bodyPost_ret (v := .tuple #[.agg #[.int .i64 xi, .int .i64 xt, str xd], .int .i64 1]) (by simp [results, Try.results18, go_sem, e0, e1, e2, hEl]) rfl ?_
          rw [HA2.out, HL2.out]
          exact ⟨rfl, HL.out _ (HFin.out _ _ _ _ HX4.out), Kept.of (HFin.out _ _ _ _ HX4.out)⟩
        | false =>
          have hM2 := of_decide_eq_false HM2.out.symm
          have HA2 : Hid (A = if 0 < t then (⟨i, t, []⟩, 2) else (⟨i, 0, []⟩, 3)) := Hid.of (HA.out.trans (if_neg (fun h => hM2 (HG.out.1 h))))
          have HL2 : Hid (LL = { L with hurt := setF L.hurt i true }) := Hid.of (HLr.out.trans (if_neg (fun h => hM2 (HG.out.1 h))))
          have h4 := HL.out wc HX4.out
          have c5 := h4.blk.cells.2.2.2.2.2
          have hm4 := h4.hurt
          have HM4 := Hid.of h4
          clear HM2 hM2 HA HLr h4 hi2
          go_upto_region 9 with (at_mapUpdate; refine wpl_mapsetA Try.underlying84 Try.underlying3 hm4 i (.bool true) rfl rfl rfl ?_; intro w5 hm5 hx5)
          have h4 := HM4.out
          have hE5 := Blk.keep HE4.out hx5 (by simpa using fun e => hmE e.symm)
          have ct5 : Calls Try.prog 33 #[.pointer (some ⟨q, 0, none⟩), .int .i64 i] w5 (QRet w5 (.int .i64 t)) := by
            have := term_o (L := L) w5 (Blk.keep h4.blk hx5 (by simpa using h4.ne)) h4.ok (h4.terms.keep hx5 (fun k hk hm => by simp at hm; subst hm; exact h4.nem hk)) i
            rwa [← HT.out] at this
          have hG : ∀ W : World, Ext [E] w5 W → LgAt w0 W q b mb tv D { L with hurt := setF L.hurt i true } n V s O ∧ Kept O w W := by
            intro W hx6
            have hxf : Ext [mb, E] wc W := (hx5.mono (G := [mb, E]) (by simp)).trans hx6 (by simp)
            have hxw : Ext [mb] w W := ((HX4.out.mono (G := [mb]) (by simp)).trans hx5 (by simp)).trans hx6 (fun x hx => .inr (by simp at hx; rw [hx]; exact HN.out))
            have hw := HL.out w (Ext.refl _ _)
            have := hw.toLgM.turn (L' := { L with hurt := setF L.hurt i true }) (hxw.mono (by simp)) (Blk.keep h4.blk hxf (by simpa using ⟨h4.ne, hqE⟩)) (h4.terms.keep hxf (fun k hk hm => by simp at hm; rcases hm with rfl | rfl; exact h4.nem hk; exact htE hk)) (by rw [← hurtF_set]; exact hm5.keep hx6 (by simpa using hmE)) (h4.ok.setHurt i (by omega) (by omega)) (fun z hz => .inl hz)
            exact ⟨⟨this.1, h4.fine⟩, this.2⟩
          have HGr := Hid.of hG
          clear e0 e1 e2 z0 hEl hG hx5 hm5 hm4 h4 c5 HM4 HFin
          have e0 : w5.cell? ⟨E, 0, none⟩ = some (.int .i64 0) := Blk.c hE5 0
          have e1 : w5.cell? ⟨E, 1, none⟩ = some (.int .i64 0) := Blk.c hE5 1
          have e2 : w5.cell? ⟨E, 2, none⟩ = some (.string ⟨#[]⟩) := Blk.c hE5 2
          have z0 := fun j => Blk.f hE5 j
          have hEl := Blk.lt hE5
          have hfin : ∀ (m : Nat) (x t : Int) (d : ByteArray), Ext [E] w5 (((((w5.drewN m).setCell ⟨E, 0, none⟩ (.int .i64 x)).setCell ⟨E, 1, none⟩ (.int .i64 t)).setCell ⟨E, 2, none⟩ (.string d))) := fun m x t d => (((((Ext.refl _ _).drewN m).setCell (.inl (by simp)) _).setCell (.inl (by simp)) _).setCell (.inl (by simp)) _)
          have HFin := Hid.of hfin
          clear hfin hE5
          by_cases g : 0 < t
          · have HA3 : Hid (A = (⟨i, t, []⟩, 2)) := Hid.of (HA2.out.trans (if_pos g))
            clear HA2
            go_wp2_with (go_at_call 33; (with_reducible refine ct5.mono ?_); rintro e w6 ⟨rfl, m, rfl⟩)
            refine bodyPost_ret (v := .tuple #[.agg #[.int .i64 i, .int .i64 t, .string ⟨#[]⟩], .int .i64 2]) (by simp [results, Try.results18, go_sem, e0, e1, e2, hEl]) rfl ?_
            rw [HA3.out, HL2.out]
            exact ⟨rfl, HGr.out _ (HFin.out _ _ _ _)⟩
          · have HA3 : Hid (A = (⟨i, 0, []⟩, 3)) := Hid.of (HA2.out.trans (if_neg g))
            clear HA2
            go_wp2_with (go_at_call 33; (with_reducible refine ct5.mono ?_); rintro e w6 ⟨rfl, m, rfl⟩)
            refine bodyPost_ret (v := .tuple #[.agg #[.int .i64 i, .int .i64 0, .string ⟨#[]⟩], .int .i64 3]) (by simp [results, Try.results18, go_sem, e0, e1, e2, hEl]) rfl ?_
            rw [HA3.out, HL2.out]
            exact ⟨rfl, HGr.out _ (HFin.out _ _ _ _)⟩
end Go.Proofs.Ytmjgbkepngeckaa
