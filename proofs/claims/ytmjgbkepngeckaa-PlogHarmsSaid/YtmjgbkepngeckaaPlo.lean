/- Package plog: Open. -/
import Derived.Test.YtmjgbkepngeckaaPlm
import Derived.Test.YtmjgbkepngeckaaStep
namespace Go.Proofs.Ytmjgbkepngeckaa
open Go.RowKit
set_option linter.unusedVariables false
set_option linter.unusedSimpArgs false

theorem el_ints : Elem Try.prog 68 3 (.int .i64 0) 1 8 := Elem.mk' Try.underlying68 rfl (by kernel_rfl)
theorem wpl_mapdelN {P : Program} {w : World} {b : Nat} {f : Int → Option Value} {t k e : TypeId} {ops : Array Oper} {rest : List Oper} {a : Act} {Q : Exit → Act → World → Prop} {m x : Operand} {ty : TypeId} {pos : String} {after : Array Edge}
    (ht : P.underlying t = some (.map k e)) (hk : P.underlying k = some (.int .i64)) (h : MapAt w b f) (n : Int)
    (hm : a.eval m = .map (some b)) (hx : a.eval x = .int .i64 n)
    (hK : ∀ w', MapAt w' b (fun x => if x = n then none else f x) → Ext [b] w w' → wpList P ops Q rest a w') :
    wpList P ops Q (⟨none, .call { callee := .builtin .delete, args := #[m, x], argTypes := #[t, k] }, ty, pos, after, none⟩ :: rest) a w :=
  wpl_mapdelA ht hk h n hm hx fun w' h1 h2 => by simpa [Act.put] using hK w' h1 h2
/-- What the places of a log, read one behind the other, tell. -/
structure Scan (V : Int → Sl) (L : Lg) : Prop where
  there : ∀ j : Nat, j < L.terms.length → (L.look V (L.first + j)).2 ≠ 0 ∧ L.terms[j]? = some (L.look V (L.first + j)).1.term
  hurt : ∀ i, L.hurt i = decide (L.first ≤ i ∧ i < L.first + L.terms.length ∧ (L.look V i).2 ≠ 1)
def Lg.nil (base size first : Int) : Lg := ⟨base, size, first, [], fun _ => false⟩
theorem Scan.nil (V : Int → Sl) (base size first : Int) : Scan V (Lg.nil base size first) :=
  ⟨fun j hj => absurd hj (by simp [Lg.nil]), fun i => by
    show false = _
    symm
    rw [decide_eq_false_iff_not]
    rintro ⟨h1, h2, _⟩
    simp only [Lg.nil, List.length_nil] at h1 h2
    omega⟩
def Lg.push (L : Lg) (t : Int) (h : Bool) : Lg := { L with terms := L.terms ++ [t], hurt := setF L.hurt (L.first + L.terms.length) h }
theorem Lg.push_look (L : Lg) (t : Int) (h : Bool) (V : Int → Sl) (i : Int) : (L.push t h).look V i = L.look V i := rfl
theorem Scan.push {V : Int → Sl} {L : Lg} (h : Scan V L) {x : Ent × Int} (hx : L.look V (L.first + L.terms.length) = x) (h0 : x.2 ≠ 0) : Scan V (L.push x.1.term (decide (x.2 ≠ 1))) := by
  subst hx
  obtain ⟨t, ht⟩ : ∃ t, t = (L.look V (L.first + L.terms.length)).1.term := ⟨_, rfl⟩
  rw [← ht]
  refine ⟨fun j hj => ?_, fun i => ?_⟩
  · rw [Lg.push_look]
    show (L.look V (L.first + j)).2 ≠ 0 ∧ (L.terms ++ [t])[j]? = some (L.look V (L.first + j)).1.term
    have hj' : j < (L.terms ++ [t]).length := hj
    rw [List.length_append, List.length_singleton] at hj'
    by_cases hjl : j < L.terms.length
    · rw [List.getElem?_append_left hjl]; exact h.there j hjl
    · obtain rfl : j = L.terms.length := by omega
      refine ⟨h0, ?_⟩
      rw [List.getElem?_append_right (Nat.le_refl _), ht]
      simp
  · rw [Lg.push_look]
    show setF L.hurt (L.first + L.terms.length) _ i = decide (L.first ≤ i ∧ i < L.first + ((L.terms ++ [t]).length : Nat) ∧ (L.look V i).2 ≠ 1)
    rw [List.length_append, List.length_singleton]
    clear ht
    by_cases hi : i = L.first + L.terms.length
    · rw [hi, setF_same, decide_eq_decide]
      exact ⟨fun h => ⟨by omega, by omega, h⟩, fun h => h.2.2⟩
    · rw [setF_other _ _ _ _ hi, h.hurt i, decide_eq_decide]
      constructor
      · rintro ⟨h1, h2, h3⟩; exact ⟨h1, by omega, h3⟩
      · rintro ⟨h1, h2, h3⟩; exact ⟨h1, by omega, h3⟩
theorem Lg.look_rng {V : Int → Sl} {D : Dv} {n : Int} {s : Nat} {L : Lg} (hf : Fine D n V s) (h : LgOk L n) (i : Int) : 0 ≤ (L.look V i).1.term ∧ (L.look V i).1.term ≤ 281474976710655 := by
  obtain ⟨a1, a2, b1, b2, _⟩ := h.ab i
  obtain ⟨_, f2, _⟩ := hf.sound a1 a2
  obtain ⟨_, f5, _⟩ := hf.sound b1 b2
  unfold Lg.look lookP
  split
  · rename_i hh
    have := (putE_ok (f2 hh.1)).1
    unfold Rc.right at this
    exact ⟨this.2.2.1, this.2.2.2.2.2⟩
  · split
    · simp [Ent.zero]
    · split
      · rename_i hh
        have := (putE_ok (f5 hh.1)).1
        unfold Rc.right at this
        exact ⟨this.2.2.1, this.2.2.2.2.2⟩
      · split <;> simp [Ent.zero]
theorem LgOk.push {L : Lg} {n : Int} (h : LgOk L n) {t : Int} (ht : 0 ≤ t ∧ t ≤ 281474976710655) (hl : (L.terms.length : Int) < L.size) (b : Bool) : LgOk (L.push t b) n := by
  have e : (L.push t b).terms.length = L.terms.length + 1 := by simp [Lg.push]
  refine ⟨h.base, h.size, h.fit, h.big, h.first, h.firstb, ?_, fun y hy => ?_, fun i hi => ?_⟩
  · rw [e]; show ((L.terms.length + 1 : Nat) : Int) ≤ L.size; omega
  · rcases List.mem_append.1 (show y ∈ L.terms ++ [t] from hy) with h1 | h1
    · exact h.terms y h1
    · rw [List.mem_singleton.1 h1]; exact ht
  · have hi' : setF L.hurt (L.first + L.terms.length) b i = true := hi
    by_cases hii : i = L.first + L.terms.length
    · have h1 := h.first
      have h2 := h.firstb
      have h3 := h.fit
      have h4 := h.big
      have h5 := h.base
      rw [hii]
      omega
    · rw [setF_other _ _ _ _ hii] at hi'
      exact h.hurt i hi'
/-- How long the slice in a log's block is. -/
def lenAt (w : World) (q : Nat) : Nat := match w.cell? ⟨q, 4, none⟩ with
  | some (.slice _ n _) => n
  | _ => 0
theorem LgB.lenAt {w : World} {q b mb : Nat} {a : Option Addr} {n c : Nat} {L : Lg} (h : LgB w q b mb (.slice a n c) L) : Go.Proofs.Ytmjgbkepngeckaa.lenAt w q = n := by
  unfold Go.Proofs.Ytmjgbkepngeckaa.lenAt
  rw [h.cells.2.2.2.2.1]
/-- The device alone. -/
def DevX (w0 w : World) (b : Nat) (n : Int) (V : Int → Sl) (O : List Nat) : Prop := ∃ D, DevO w0 w b D O ∧ Fine D n V 0
/-- A log in working order, all its writes safe. -/
def LgX (w0 w : World) (q b : Nat) (L : Lg) (n : Int) (V : Int → Sl) (O : List Nat) : Prop := ∃ mb tv D, LgAt w0 w q b mb tv D L n V 0 O
theorem LgM.init {w0 w : World} {b : Nat} {D : Dv} {n : Int} {O : List Nat} (h : DevO w0 w b D O) {base size first : Int} (hok : LgOk (Lg.nil base size first) n) :
    LgM w0 ((w.alloc (.map #[] 0)).alloc (.cells #[.pointer (some ⟨b, 0, none⟩), .int .i64 base, .int .i64 size, .int .i64 first, .slice none 0 0, .map (some w.heap.size)] 86)) (w.heap.size + 1) b w.heap.size (.slice none 0 0) D (Lg.nil base size first) n O := by
  have x1 : Ext [] w (w.alloc (.map #[] 0)) := (Ext.refl _ _).alloc _
  have s1 : (w.alloc (.map #[] 0)).heap.size = w.heap.size + 1 := by simp
  have h1 := h.add x1 w.heap.size (Nat.le_refl _) (by rw [s1]; omega)
  obtain ⟨C, hC⟩ : ∃ C : Array Value, C = #[.pointer (some ⟨b, 0, none⟩), .int .i64 base, .int .i64 size, .int .i64 first, .slice none 0 0, .map (some w.heap.size)] := ⟨_, rfl⟩
  rw [← hC]
  have x2 : Ext [] (w.alloc (.map #[] 0)) ((w.alloc (.map #[] 0)).alloc (.cells C 86)) := (Ext.refl _ _).alloc _
  have h2 := h1.add x2 (w.heap.size + 1) (by rw [s1]; exact Nat.le_refl _) (by simp)
  have hx0 := h.ext.size
  refine ⟨?_, Own.nil _ _ _, ?_, ?_, hok, by omega, by simp [vblocks], by simp [vblocks], fun z hz => ?_, by omega, by omega, by simp [vblocks]⟩
  · have := Blk.newg (w := w.alloc (.map #[] 0)) (t := 86) (C := C) s1
    rw [hC] at this ⊢
    exact this
  · have : hurtF (Lg.nil base size first).hurt = fun _ => none := by funext x; rfl
    rw [this]
    exact (MapAt.new w).keep x2 (by simp)
  · exact h2.sub (fun z hz => by simpa [vblocks] using hz)
  · have := h.lt z hz
    exact ⟨by omega, by omega, by simp [vblocks]⟩
/-- What Open answers; where nothing is to be done the device stays as it is. -/
def OpenD (w0 w : World) (b : Nat) (base size first : Int) (n : Int) (D : Dv) (V : Int → Sl) (O : List Nat) (e : Ending) (w' : World) : Prop :=
  ∃ q mb tv L D2 V1 V2, e = .returned (.tuple #[.pointer (some ⟨q, 0, none⟩), .int .i64 0]) ∧ LgAt w0 w' q b mb tv D2 L n V2 0 O ∧ Kept O w w' ∧ (L.base = base ∧ L.size = size ∧ L.first = first) ∧ Scan V L ∧ ((L.terms.length : Int) = L.size ∨ (L.look V (L.first + L.terms.length)).2 = 0) ∧ RemarkIs L V V1 L.terms.length ∧ CleanP L (L.first + L.terms.length) 2 V1 V2 ∧ w.heap.size ≤ q ∧ (MarksOk L V → AllFree L (L.first + L.terms.length) V → D2 = D)
/-- What Open answers. -/
def OpenPost (w0 w : World) (b : Nat) (base size first : Int) (n : Int) (V : Int → Sl) (O : List Nat) (e : Ending) (w' : World) : Prop :=
  ∃ q L V1 V2, e = .returned (.tuple #[.pointer (some ⟨q, 0, none⟩), .int .i64 0]) ∧ LgX w0 w' q b L n V2 O ∧ Kept O w w' ∧ L.base = base ∧ L.size = size ∧ L.first = first ∧ Scan V L ∧ ((L.terms.length : Int) = L.size ∨ (L.look V (L.first + L.terms.length)).2 = 0) ∧ RemarkIs L V V1 L.terms.length ∧ CleanP L (L.first + L.terms.length) 2 V1 V2 ∧ w.heap.size ≤ q
set_option maxRecDepth 100000 in
set_option maxHeartbeats 12800000 in
theorem open_d {w0 w : World} {b : Nat} {n : Int} {D : Dv} {V : Int → Sl} {O : List Nat} (hd : DevO w0 w b D O) (hf : Fine D n V 0) (base size first : Int) (h1 : 0 ≤ base) (h2 : 1 ≤ size) (h3 : base + 2 * size ≤ n) (h4 : 1 ≤ first) (h5 : first ≤ 1000000000) :
    Calls Try.prog 20 #[.pointer (some ⟨b, 0, none⟩), .int .i64 base, .int .i64 size, .int .i64 first] w (OpenD w0 w b base size first n D V O) := by
  have hn := hf.big
  have cz := size_n b D w0 w hd.n
  rw [hf.size] at cz
  have HF := Hid.of hf
  have HD := Hid.of hd
  have e1 : ¬ (n - base).tdiv 2 < size := by rw [Int.tdiv_eq_ediv_of_nonneg (by omega)]; omega
  clear hf hd
  have hmm := @run_makeMap Try.prog
  go_enter Try.func20, Try.ntmps20
  go_upto_region 4 with (first
    | (go_at_call 41; (with_reducible refine cz.mono ?_); rintro e w1 ⟨rfl, rfl⟩))
  have hok : LgOk (Lg.nil base size first) n := ⟨h1, h2, h3, hn, h4, h5, by show (0 : Int) ≤ size; omega, by simp [Lg.nil], by simp [Lg.nil]⟩
  have HM0 := LgM.init HD.out hok
  obtain ⟨W, hW⟩ : ∃ W, W = (w.alloc (.map #[] 0)).alloc (.cells #[.pointer (some ⟨b, 0, none⟩), .int .i64 base, .int .i64 size, .int .i64 first, .slice none 0 0, .map (some w.heap.size)] 86) := ⟨_, rfl⟩
  have HK : Hid (Kept O w W) := Hid.of (by rw [hW]; exact Kept.of (((Ext.refl [] w).alloc _).alloc _))
  rw [← hW] at HM0 ⊢
  have hq0 : w.heap.size ≤ w.heap.size + 1 := by omega
  have HQ0 := Hid.of hq0
  clear hW hok hq0
  generalize w.heap.size + 1 = q at HM0 HQ0 ⊢
  generalize w.heap.size = mb at HM0 ⊢
  have HM := Hid.of HM0
  clear HM0 HD
  go_loopw [] (fun wr => ∃ (tv : Value) (L : Lg), Hid (LgM w0 wr q b mb tv D L n O) ∧ Hid (Kept O w wr) ∧ L.base = base ∧ L.size = size ∧ L.first = first ∧ Hid (Scan V L)) (fun wr => size.toNat - lenAt wr q)
  case atStart => exact ⟨_, _, HM, HK, rfl, rfl, rfl, Scan.nil _ _ _ _⟩
  case round =>
    obtain ⟨tv, L, hM, hK, rfl, rfl, rfl, hS⟩ := hrel
    have HA := Hid.of (⟨hM.out, HF.out⟩ : LgAt w0 wr q b mb tv D L n V 0 O)
    obtain ⟨ta, tc, htv⟩ := hM.out.tv_slice
    obtain ⟨c0, c1, c2, c3, c4, c5⟩ := hM.out.blk.cells
    have hlen := hM.out.ok.len
    rw [htv] at c4
    by_cases hl : (L.terms.length : Int) < L.size
    · have cl := last_o wr hM.out.blk hM.out.ok hM.out.tv_slice
      have e2 : L.last + 1 = L.first + L.terms.length := by unfold Lg.last; omega
      obtain ⟨i, hi⟩ : ∃ i, i = L.first + L.terms.length := ⟨_, rfl⟩
      rw [← hi] at e2
      have hi0 : 0 ≤ i := by omega
      have hib : i ≤ 2000000000 := by omega
      have ck := fun w' (hx : Ext [] wr w') => look_o (HA.out.keep hx) i hi0
      have hrng := Lg.look_rng HF.out hM.out.ok i
      have HSp : Hid (∀ x, L.look V i = x → x.2 ≠ 0 → Scan V (L.push x.1.term (decide (x.2 ≠ 1)))) := Hid.of (by rw [hi]; exact fun x => hS.out.push)
      have HSz : Hid (∀ x, L.look V i = x → x.2 = 0 → (L.terms.length : Int) = L.size ∨ (L.look V (L.first + L.terms.length)).2 = 0) := Hid.of (by rw [← hi]; rintro x rfl h; exact .inr h)
      obtain ⟨X, hX⟩ : ∃ X, X = L.look V i := ⟨_, rfl⟩
      have HX := Hid.of hX
      rw [← hX] at ck hrng
      clear hX
      obtain ⟨M, hMM⟩ : ∃ M, M = L.last := ⟨_, rfl⟩
      rw [← hMM] at cl e2
      have hM2 : M ≤ 2000000000 := by omega
      have hM3 : 0 ≤ M := by unfold Lg.last at hMM; omega
      have HI := Hid.of hi
      clear hi hMM hlen
      obtain ⟨⟨xi, xt, xd⟩, st⟩ := X
      simp only [Ent.val] at ck hrng
      have HCs := Hid.of (fun w' (hx : Ext [] wr w') => (hM.out.keep hx).blk)
      go_upto_region 6 with (first
        | (go_at_call 21; (with_reducible refine cl.mono ?_); intro e w2 hq; obtain ⟨rfl, hx2⟩ := QRet.ext hq; have HX2 := Hid.of hx2; clear hq hx2 cl))

      clear e2 hM2 hM3
      go_upto_region 9 with (first
        | (go_at_call 40; (with_reducible refine (ck _ HX2.out).mono ?_); rintro e w3 ⟨rfl, hx3⟩; have HX3 := Hid.of (HX2.out.then0 hx3); clear hx3 ck))
      obtain ⟨W4, hW4⟩ : ∃ W, W = w3.alloc (.cells #[.int .i64 xi, .int .i64 xt, .string ⟨xd.toArray⟩] 37) := ⟨_, rfl⟩
      have x4 : Ext [] w3 W4 := by rw [hW4]; exact (Ext.refl _ _).alloc _
      have HE4 : Hid (Blk W4 w3.heap.size 37 [.int .i64 xi, .int .i64 xt, str xd]) := Hid.of (by rw [hW4]; exact Blk.new w3 37 #[.int .i64 xi, .int .i64 xt, str xd])
      have HXr := Hid.of (HX3.out.then0 x4)
      have HN3 : Hid (wr.heap.size ≤ w3.heap.size) := Hid.of HX3.out.size
      rw [← hW4]
      clear hW4 x4 HX2 HX3
      generalize w3.heap.size = E at HE4 HN3 ⊢
      by_cases h0 : st = 0
      · have HEnd := Hid.of (HSz.out _ HX.out.symm h0)
        clear HSz HSp HE4
        subst h0
        have HA2 := Hid.of (HA.out.keep HXr.out)
        clear HA
        have HA := HA2
        clear HA2
        have cr := remark_o HA.out
        clear c0 c1 c2 c3 c5
        go_upto_region 17 with (first
          | (go_at_call 42; (with_reducible refine cr.mono ?_); rintro e w7 ⟨rfl, D7, V7, hr7, hm7, hk7, hs7⟩; have HR7 := Hid.of hr7; have HM7 := Hid.of hm7; have HK7 := Hid.of hk7; have HSm7 := Hid.of hs7; clear hr7 hm7 hk7 hs7 cr))
        have cl7 := last_o w7 HM7.out.blk HM7.out.ok HM7.out.tv_slice
        have cc7 := fun w' (hx : Ext [] w7 w') => clean_o (HM7.out.keep hx) (L.first + L.terms.length) (by omega) (by have := HM7.out.ok.len; omega)
        have hb1 := HM7.out.ok.first
        have hb2 := HM7.out.ok.firstb
        have hb3 := HM7.out.ok.len
        have hb4 := HM7.out.ok.fit
        have hb5 := HM7.out.ok.base
        have e2 : L.last + 1 = L.first + L.terms.length := by unfold Lg.last; omega
        have e3 : L.last ≤ 2000000000 := by unfold Lg.last; omega
        have e4 : 0 ≤ L.last := by unfold Lg.last; omega
        obtain ⟨M, hMM⟩ : ∃ M, M = L.last := ⟨_, rfl⟩
        rw [← hMM] at cl7 e2 e3 e4
        rw [← e2] at cc7
        have HE2 := Hid.of e2
        clear hMM e2
        go_wp2_with (first
          | (go_at_call 21; (with_reducible refine cl7.mono ?_); intro e w8 hq; obtain ⟨rfl, hx8⟩ := QRet.ext hq; have cc8 := cc7 w8 hx8; have HX8 := Hid.of hx8; clear hq hx8 cl7 cc7)
          | (go_at_call 43; (with_reducible refine cc8.mono ?_); rintro e w9 ⟨rfl, D9, V9, hc9, hm9, hk9, hs9⟩; have HC9 := Hid.of hc9; have HM9 := Hid.of hm9; have HK9 := Hid.of hk9; have HSm9 := Hid.of hs9; clear hc9 hm9 hk9 hs9 cc8))
        go_ret2
        exact ⟨q, mb, tv, L, D9, V7, V9, rfl, HM9.out, ((hK.out.trans (Kept.of HXr.out)).trans HK7.out).trans ((Kept.of HX8.out).trans HK9.out), ⟨rfl, rfl, rfl⟩, hS.out, HEnd.out, HR7.out, by rw [← HE2.out]; exact HC9.out, HQ0.out, fun h1 h2 => by obtain ⟨s1, s2⟩ := HSm7.out h1; rw [← HE2.out] at h2; rw [← s2] at h2; rw [(HSm9.out h2).1, s1]⟩
      · have HS2 := Hid.of (HSp.out _ HX.out.symm h0)
        have h0b : (st == 0) = false := by simp [h0]
        simp only at HS2
        clear HSz HSp HX
        have hb4 := HCs.out W4 HXr.out
        have c4' : W4.cell? ⟨q, 4, none⟩ = some (.slice ta L.terms.length tc) := by rw [hb4.cells.2.2.2.2.1, htv]
        have e1' : W4.cell? ⟨E, 1, none⟩ = some (.int .i64 xt) := Blk.c HE4.out 1
        have hown : Own W4 3 1 (.slice ta L.terms.length tc) L.terms.length (ints L.terms) := by rw [← htv]; exact hM.out.terms.keep HXr.out (by simp)
        clear c0 c1 c2 c3 c4 c5
        have c4a : (W4.alloc (.cells #[.int .i64 xt] 3)).cell? ⟨q, 4, none⟩ = some (.slice ta L.terms.length tc) := ((Ext.refl [] W4).alloc _).cell (by simp) c4'
        have hqv : ∀ x ∈ vblocks (.slice ta L.terms.length tc), x ≠ q := fun x hx => by rw [← htv] at hx; exact fun e => hM.out.neq (e ▸ hx)
        have HHb := Hid.of hb4
        have HHq := Hid.of hqv
        have hlb : L.terms.length ≤ 4096 := by omega
        clear hb4 hqv
        go_upto_region 10 with fail
        go_region_law (first
          | (refine step_append rfl _ _ _ rfl 3 (.int .i64 0) 1 8 el_ints (.slice ta L.terms.length tc) L.terms.length (ints L.terms) rfl (hown.keep (((Ext.refl [] W4).drew).alloc _) (by simp)) (.slice (some ⟨W4.heap.size, 0, none⟩) 1 1) 1 [.int .i64 xt] rfl ?_ (icells_one .i64 [xt]) (by omega) (by unfold maxLen; omega) ?_; (exact Rd.ints1 (w := W4.drew) xt rfl); intro v' w5 ho5 hx5 hv5; obtain ⟨a5, c5, rfl⟩ := Rd.isSlice (Own.rd ho5); have hx5 : Ext (vblocks (.slice ta L.terms.length tc)) W4 w5 := (((Ext.refl _ W4).drew).alloc _).trans hx5 (fun x hx => .inl hx); have hb5 := Blk.keep HHb.out hx5 (fun hh => HHq.out _ hh rfl); have c5' : w5.cell? ⟨q, 4, none⟩ = some tv := Blk.c hb5 4; have f5' := Blk.f hb5 4; have HB5 := Hid.of hb5; have HO5 := Hid.of ho5; have HX5 := Hid.of hx5; have HV5 := Hid.of hv5; clear hb5 ho5 hx5 hv5)
          | (refine step_append rfl _ _ _ rfl 3 (.int .i64 0) 1 8 el_ints (.slice ta L.terms.length tc) L.terms.length (ints L.terms) rfl (hown.keep (((Ext.refl [] W4).alloc _).drew) (by simp)) (.slice (some ⟨W4.heap.size, 0, none⟩) 1 1) 1 [.int .i64 xt] rfl ?_ (icells_one .i64 [xt]) (by omega) (by unfold maxLen; omega) ?_; (exact (Rd.ints1 (w := W4) xt rfl).drew); intro v' w5 ho5 hx5 hv5; obtain ⟨a5, c5, rfl⟩ := Rd.isSlice (Own.rd ho5); have hx5 : Ext (vblocks (.slice ta L.terms.length tc)) W4 w5 := (((Ext.refl _ W4).alloc _).drew).trans hx5 (fun x hx => .inl hx); have hb5 := Blk.keep HHb.out hx5 (fun hh => HHq.out _ hh rfl); have c5' : w5.cell? ⟨q, 4, none⟩ = some tv := Blk.c hb5 4; have f5' := Blk.f hb5 4; have HB5 := Hid.of hb5; have HO5 := Hid.of ho5; have HX5 := Hid.of hx5; have HV5 := Hid.of hv5; clear hb5 ho5 hx5 hv5))
        all_goals (
          obtain ⟨W6, hW6⟩ : ∃ W, W = w5.setCell ⟨q, 4, none⟩ (.slice a5 (L.terms.length + 1) c5) := ⟨_, rfl⟩
          have hb6 : LgB W6 q b mb (.slice a5 (L.terms.length + 1) c5) L := by rw [hW6]; exact Blk.set HB5.out 4 _
          have x6 : Ext (q :: vblocks tv) wr W6 := by
            rw [hW6, htv]
            exact ((HXr.out.mono (by simp)).trans HX5.out (fun x hx => .inl (by simp [hx]))).setCell (.inl (by simp)) _
          have ho6 : Own W6 3 1 (.slice a5 (L.terms.length + 1) c5) (L.terms.length + 1) (ints L.terms ++ [.int .i64 xt]) := by
            rw [hW6]
            refine HO5.out.keep ((Ext.refl [q] w5).setCell (.inl (by simp)) _) (fun k hk hm => ?_)
            simp at hm
            subst hm
            rcases HV5.out with h | h
            · rw [h] at hk; exact HHq.out k hk rfl
            · rw [h] at hk
              have := Blk.lt HHb.out
              simp at hk
              omega
          have hv6 : ∀ z ∈ vblocks (.slice a5 (L.terms.length + 1) c5), z ∈ vblocks tv ∨ wr.heap.size ≤ z := fun z hz => by
            rcases HV5.out with h | h
            · rw [h, ← htv] at hz; exact .inl hz
            · rw [h] at hz
              have := HXr.out.size
              simp at hz
              exact .inr (by omega)
          have hmv : ∀ z ∈ vblocks (.slice a5 (L.terms.length + 1) c5), z ≠ mb := fun z hz e => by
            rcases hv6 z hz with h | h
            · exact hM.out.nem (e ▸ h)
            · have := hM.out.hurt.lt; omega
          have hm6 : MapAt W6 mb (hurtF L.hurt) := hM.out.hurt.keep x6 (by
            simp only [List.mem_cons, not_or]
            exact ⟨fun e => hM.out.ne e.symm, hM.out.nem⟩)
          have hne := hM.out.ne
          have hturn : ∀ VAL : Bool, ∀ w8 : World, Ext [mb] W6 w8 → MapAt w8 mb (hurtF (setF L.hurt i VAL)) → LgM w0 w8 q b mb (.slice a5 (L.terms.length + 1) c5) D (L.push xt VAL) n O ∧ Kept O wr w8 := by
            intro VAL w8 hx8 hm8
            have el : (L.push xt VAL).terms.length = L.terms.length + 1 := by simp [Lg.push]
            refine hM.out.turn (L' := L.push xt VAL) ((x6.mono (G := q :: mb :: vblocks tv) (fun x hx => .inl (by simp only [List.mem_cons] at hx ⊢; rcases hx with h | h; exact .inl h; exact .inr (.inr h)))).trans hx8 (by simp)) ?_ ?_ ?_ (hM.out.ok.push hrng hl VAL) hv6
            · exact Blk.keep hb6 hx8 (by simpa using hne)
            · rw [el]
              have e2 : ints (L.push xt VAL).terms = ints L.terms ++ [.int .i64 xt] := by simp [ints, Lg.push]
              rw [e2]
              exact ho6.keep hx8 (fun k hk => by simpa using hmv k hk)
            · show MapAt w8 mb (hurtF (setF L.hurt (L.first + L.terms.length) VAL))
              rw [← HI.out]
              exact hm8
          have HTurn := Hid.of hturn
          have HNe : Hid (q ≠ mb) := Hid.of hne
          have cm6 : W6.cell? ⟨q, 5, none⟩ = some (.map (some mb)) := hb6.cells.2.2.2.2.2
          rw [← hW6]
          clear hturn hne hmv hv6 ho6 x6 hb6 hW6 HB5 HO5 HX5 HV5 hown c4' c4a e1'
          by_cases h1s : st = 1
          · have HS2F : Scan V (L.push xt false) := by have := HS2.out; rwa [h1s] at this
            subst h1s
            clear HS2 h0b
            have HEnd6 : ∀ w8 : World, Ext [mb] W6 w8 → MapAt w8 mb (hurtF (setF L.hurt i false)) → LgM w0 w8 q b mb (.slice a5 (L.terms.length + 1) c5) D (L.push xt false) n O ∧ Kept O wr w8 := HTurn.out false
            have HE8 := Hid.of HEnd6
            clear HEnd6 HTurn
            go_upto_region 12 with (at_mapUpdate; refine wpl_mapsetA Try.underlying84 Try.underlying3 hm6 i (.bool false) rfl rfl rfl ?_; intro w7 hm7 hx7)
            have cm7 : w7.cell? ⟨q, 5, none⟩ = some (.map (some mb)) := hx7.cell (by simpa using HNe.out) cm6
            go_wp2_with (at_delete; refine wpl_mapdelN Try.underlying84 Try.underlying3 hm7 i rfl rfl ?_; intro w8 hm8 hx8)
            have hf : (fun x => if x = i then none else if x = i then some (.bool false) else hurtF L.hurt x) = hurtF (setF L.hurt i false) := by
              rw [← hurtF_del]
              funext x
              by_cases hx : x = i <;> simp [hx]
            have hE := HE8.out w8 (hx7.trans hx8 (by simp)) (by rw [← hf]; exact hm8)
            have hbb : LgB wr q b mb (.slice ta L.terms.length tc) L := by have := hM.out.blk; rwa [htv] at this
            have hln := LgB.lenAt hbb
            clear hbb
            have hln2 := LgB.lenAt hE.1.blk
            have HS3 : Hid (Scan V (L.push xt false)) := Hid.of HS2F
            have HG := Hid.of hE
            clear hE HE8
            refine ⟨⟨.slice a5 (L.terms.length + 1) c5, L.push xt false, HG.out.1, hK.out.trans HG.out.2, rfl, rfl, rfl, HS3⟩, ?_⟩
            rw [hln2, hln]
            omega
          · have HS2T : Scan V (L.push xt true) := by have := HS2.out; rwa [decide_eq_true h1s] at this
            have h1b : (st == 1) = false := by simp [h1s]
            have h1n : (st != 1) = true := by simp [h1s]
            clear HS2
            have HEnd6 : ∀ w8 : World, Ext [mb] W6 w8 → MapAt w8 mb (hurtF (setF L.hurt i true)) → LgM w0 w8 q b mb (.slice a5 (L.terms.length + 1) c5) D (L.push xt true) n O ∧ Kept O wr w8 := HTurn.out true
            have HE8 := Hid.of HEnd6
            clear HEnd6 HTurn
            go_upto_region 12 with (at_mapUpdate; refine wpl_mapsetA Try.underlying84 Try.underlying3 hm6 i (.bool true) rfl rfl rfl ?_; intro w7 hm7 hx7)
            go_wp2
            have hE := HE8.out w7 hx7 (by rw [← hurtF_set]; exact hm7)
            have hbb : LgB wr q b mb (.slice ta L.terms.length tc) L := by have := hM.out.blk; rwa [htv] at this
            have hln := LgB.lenAt hbb
            clear hbb
            have hln2 := LgB.lenAt hE.1.blk
            have HS3 : Hid (Scan V (L.push xt true)) := Hid.of HS2T
            have HG := Hid.of hE
            clear hE HE8
            refine ⟨⟨.slice a5 (L.terms.length + 1) c5, L.push xt true, HG.out.1, hK.out.trans HG.out.2, rfl, rfl, rfl, HS3⟩, ?_⟩
            rw [hln2, hln]
            omega
          )
    · have HXr := Hid.of (Ext.refl [] wr)
      have HEnd : Hid ((L.terms.length : Int) = L.size ∨ (L.look V (L.first + L.terms.length)).2 = 0) := Hid.of (.inl (by omega))
      have cr := remark_o HA.out
      clear c0 c1 c2 c3 c5
      go_upto_region 17 with (first
        | (go_at_call 42; (with_reducible refine cr.mono ?_); rintro e w7 ⟨rfl, D7, V7, hr7, hm7, hk7, hs7⟩; have HR7 := Hid.of hr7; have HM7 := Hid.of hm7; have HK7 := Hid.of hk7; have HSm7 := Hid.of hs7; clear hr7 hm7 hk7 hs7 cr))
      have cl7 := last_o w7 HM7.out.blk HM7.out.ok HM7.out.tv_slice
      have cc7 := fun w' (hx : Ext [] w7 w') => clean_o (HM7.out.keep hx) (L.first + L.terms.length) (by omega) (by have := HM7.out.ok.len; omega)
      have hb1 := HM7.out.ok.first
      have hb2 := HM7.out.ok.firstb
      have hb3 := HM7.out.ok.len
      have hb4 := HM7.out.ok.fit
      have hb5 := HM7.out.ok.base
      have e2 : L.last + 1 = L.first + L.terms.length := by unfold Lg.last; omega
      have e3 : L.last ≤ 2000000000 := by unfold Lg.last; omega
      have e4 : 0 ≤ L.last := by unfold Lg.last; omega
      obtain ⟨M, hMM⟩ : ∃ M, M = L.last := ⟨_, rfl⟩
      rw [← hMM] at cl7 e2 e3 e4
      rw [← e2] at cc7
      have HE2 := Hid.of e2
      clear hMM e2
      go_wp2_with (first
        | (go_at_call 21; (with_reducible refine cl7.mono ?_); intro e w8 hq; obtain ⟨rfl, hx8⟩ := QRet.ext hq; have cc8 := cc7 w8 hx8; have HX8 := Hid.of hx8; clear hq hx8 cl7 cc7)
        | (go_at_call 43; (with_reducible refine cc8.mono ?_); rintro e w9 ⟨rfl, D9, V9, hc9, hm9, hk9, hs9⟩; have HC9 := Hid.of hc9; have HM9 := Hid.of hm9; have HK9 := Hid.of hk9; have HSm9 := Hid.of hs9; clear hc9 hm9 hk9 hs9 cc8))
      go_ret2
      exact ⟨q, mb, tv, L, D9, V7, V9, rfl, HM9.out, ((hK.out.trans (Kept.of HXr.out)).trans HK7.out).trans ((Kept.of HX8.out).trans HK9.out), ⟨rfl, rfl, rfl⟩, hS.out, HEnd.out, HR7.out, by rw [← HE2.out]; exact HC9.out, HQ0.out, fun h1 h2 => by obtain ⟨s1, s2⟩ := HSm7.out h1; rw [← HE2.out] at h2; rw [← s2] at h2; rw [(HSm9.out h2).1, s1]⟩
theorem open_o {w0 w : World} {b : Nat} {n : Int} {V : Int → Sl} {O : List Nat} (h : DevX w0 w b n V O) (base size first : Int) (h1 : 0 ≤ base) (h2 : 1 ≤ size) (h3 : base + 2 * size ≤ n) (h4 : 1 ≤ first) (h5 : first ≤ 1000000000) :
    Calls Try.prog 20 #[.pointer (some ⟨b, 0, none⟩), .int .i64 base, .int .i64 size, .int .i64 first] w (OpenPost w0 w b base size first n V O) := by
  obtain ⟨D, hd, hf⟩ := h
  refine (open_d hd hf base size first h1 h2 h3 h4 h5).mono ?_
  rintro e w' ⟨q, mb, tv, L, D2, V1, V2, he, hl, hk, ⟨e1, e2, e3⟩, hs, hend, hr, hc, hq, -⟩
  exact ⟨q, L, V1, V2, he, ⟨mb, tv, D2, hl⟩, hk, e1, e2, e3, hs, hend, hr, hc, hq⟩
end Go.Proofs.Ytmjgbkepngeckaa
