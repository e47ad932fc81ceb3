/- Layer 6's statements: New, the example. Layer 6's statements: opened on damage; the example. Layer 6's statements: a world whose log has all its entries. Layer 6's statements: one entry appended. -/
import Derived.Test.YtmjgbkepngeckaaPq4
namespace Go.Proofs.Ytmjgbkepngeckaa
open Go.RowKit
set_option linter.unusedVariables false
set_option linter.unusedSimpArgs false

def OpenS (w0 w : World) (b : Nat) (base size first : Int) (n : Int) (all : List Ent) (O : List Nat) (e : Ending) (w' : World) : Prop :=
  ∃ q L V, e = .returned (.tuple #[.pointer (some ⟨q, 0, none⟩), .int .i64 0]) ∧ LgX w0 w' q b L n V O ∧ Kept O w w' ∧ Solid L V all ∧ L.base = base ∧ L.size = size ∧ L.first = first
theorem open_s {w0 w : World} {b : Nat} {n : Int} {V : Int → Sl} {O : List Nat} (h : DevX w0 w b n V O) {L0 : Lg} {all : List Ent} (hS : Solid L0 V all) (base size first : Int) (hb : L0.base = base) (hz : L0.size = size) (hf : L0.first = first)
    (h1 : 0 ≤ base) (h2 : 1 ≤ size) (h3 : base + 2 * size ≤ n) (h4 : 1 ≤ first) (h5 : first ≤ 1000000000) :
    Calls Try.prog 20 #[.pointer (some ⟨b, 0, none⟩), .int .i64 base, .int .i64 size, .int .i64 first] w (OpenS w0 w b base size first n all O) := by
  refine (open_o h base size first h1 h2 h3 h4 h5).mono ?_
  rintro e w' ⟨q, L, V1, V2, he, hl, hk, e1, e2, e3, hs, hend, hr, hc, -⟩
  exact ⟨q, L, V2, he, hl, hk, hS.again hl.ok (by rw [e1, hb]) (by rw [e2, hz]) (by rw [e3, hf]) hs hend hr hc, e1, e2, e3⟩
theorem Solid.new (base size first : Int) (hs : 0 < size) : Solid (Lg.nil base size first) (fun _ => (0, Rc.zero)) [] := Solid.nil hs rfl (fun _ => rfl) (fun _ => ⟨rfl, rfl⟩)
/-- A world of these statements. -/
structure Wo (w0 w : World) (wq b q : Nat) (first : Int) (va vm : Value) (L : Lg) (V : Int → Sl) (O : List Nat) : Prop where
  blk : Blk w wq 35 [.pointer (some ⟨b, 0, none⟩), .pointer (some ⟨q, 0, none⟩), .int .i64 first, va, vm]
  log : LgX w0 w q b L 19 V (wq :: O)
  new : w0.heap.size ≤ wq
  ne : wq ∉ O
theorem Wo.keep {w0 w w' : World} {wq b q : Nat} {first : Int} {va vm : Value} {L : Lg} {V : Int → Sl} {O : List Nat} (h : Wo w0 w wq b q first va vm L V O) (hx : Ext [] w w') : Wo w0 w' wq b q first va vm L V O :=
  ⟨Blk.keep h.blk hx (by simp), h.log.keep hx, h.new, h.ne⟩
def NewW (w0 w : World) (O : List Nat) (e : Ending) (w' : World) : Prop := ∃ wq b q L V, e = .returned (.pointer (some ⟨wq, 0, none⟩)) ∧ Wo w0 w' wq b q 1 (.slice none 0 0) (.slice none 0 0) L V O ∧ Kept O w w' ∧ Solid L V [] ∧ L.base = 3 ∧ L.size = 8 ∧ L.first = 1
set_option maxHeartbeats 3200000 in
theorem neww (w0 w : World) (hx : Ext [] w0 w) (O : List Nat) (hO : ∀ z ∈ O, z < w.heap.size) : Calls Try.prog 13 #[] w (NewW w0 w O) := by
  have cn := new_x w0 w hx 19 (by omega) (by omega) O hO
  have HX := Hid.of hx
  have HO := Hid.of hO
  have HE : Hid (NewW w0 w O = NewW w0 w O) := Hid.of rfl
  clear hx hO
  go_enter Try.func13, Try.ntmps13
  go_upto_region 2 with (first
    | (go_at_call 34; (with_reducible refine cn.mono ?_); rintro e w1 ⟨b, rfl, hd, hx1⟩; have HD1 := Hid.of hd; have HX1 := Hid.of hx1; clear hd hx1 cn))
  obtain ⟨wq, hwq⟩ : ∃ wq, wq = w1.heap.size := ⟨_, rfl⟩
  obtain ⟨W, hW⟩ : ∃ W, W = w1.alloc (.cells #[.pointer (some ⟨b, 0, none⟩), .pointer none, .int .i64 1, .slice none 0 0, .slice none 0 0] 35) := ⟨_, rfl⟩
  have xW : Ext [] w1 W := by rw [hW]; exact (Ext.refl _ _).alloc _
  have HB : Hid (Blk W wq 35 [.pointer (some ⟨b, 0, none⟩), .pointer none, .int .i64 1, .slice none 0 0, .slice none 0 0]) := Hid.of (by rw [hwq, hW]; exact Blk.new w1 35 #[.pointer (some ⟨b, 0, none⟩), .pointer none, .int .i64 1, .slice none 0 0, .slice none 0 0])
  have hwl : wq < W.heap.size := Blk.lt HB.out
  have HDW := Hid.of (HD1.out.add xW wq (by omega) hwl)
  have HN : Hid (w.heap.size ≤ wq) := Hid.of (by rw [hwq]; exact HX1.out.size)
  have HXW := Hid.of (HX1.out.then0 xW)
  rw [← hwq, ← hW]
  clear hwq hW xW
  have c0 : W.cell? ⟨wq, 0, none⟩ = some (.pointer (some ⟨b, 0, none⟩)) := Blk.c HB.out 0
  have co := open_s HDW.out (Solid.new 3 8 1 (by omega)) 3 8 1 rfl rfl rfl (by omega) (by omega) (by omega) (by omega) (by omega)
  go_upto_region 5 with (first
    | (go_at_call 20; (with_reducible refine co.mono ?_); rintro e w2 ⟨q, L, V, rfl, hl, hk, hS, e1, e2, e3⟩; have HL := Hid.of hl; have HK := Hid.of hk; have HS := Hid.of hS; have HE3 := Hid.of (And.intro e1 (And.intro e2 e3)); clear hl hk hS e1 e2 e3 co))
  have hb2 := HK.out.blk HB.out (by simp)
  have c1 : w2.cell? ⟨wq, 1, none⟩ = some (.pointer none) := Blk.c hb2 1
  have f1 := Blk.f hb2 1
  have HB2 := Hid.of hb2
  clear hb2 c0
  go_wp2
  go_ret
  have hxs : Ext [wq] w2 (w2.setCell ⟨wq, 1, none⟩ (.pointer (some ⟨q, 0, none⟩))) := (Ext.refl _ _).setCell (.inl (by simp)) _
  have hne : wq ∉ O := fun h => by have := HO.out _ h; have := HN.out; omega
  refine ⟨wq, b, q, L, V, rfl, ⟨Blk.set HB2.out 1 _, HL.out.other hxs (by simp) ?_, ?_, hne⟩, ?_, HS.out, HE3.out⟩
  · have := HN.out; have := HX.out.size; omega
  · have := HN.out; have := HX.out.size; omega
  · refine ((Kept.of HXW.out).trans (HK.out.sub (fun z hz => by simp [hz]))).trans (fun z hz o ho => hxs.heap (fun hm => ?_) ho)
    simp at hm
    exact hne (hm ▸ hz)
end Go.Proofs.Ytmjgbkepngeckaa
namespace Go.Proofs.Ytmjgbkepngeckaa
open Go.RowKit
set_option linter.unusedVariables false
set_option linter.unusedSimpArgs false

theorem LaidE.like {L0 L : Lg} {V : Int → Sl} {all : List Ent} {eb mb : Int → Bool} (h : LaidE L0 V all eb mb) (hb : L.base = L0.base) (hz : L.size = L0.size) (hf : L.first = L0.first) : LaidE L V all eb mb := by
  have ea : L.a = L0.a := by funext i; unfold Lg.a; rw [hb, hz]
  have eb' : L.b = L0.b := by funext i; unfold Lg.b; rw [hb, hz]
  exact ⟨by rw [hz]; exact h.pos, by rw [hz]; exact h.len, by rw [hf]; exact h.idx, by rw [ea, eb', hf]; exact h.there⟩
theorem Open9.like {L0 L : Lg} {V : Int → Sl} {N : Int} (h : Open9 L0 V N) (hb : L.base = L0.base) (hz : L.size = L0.size) (hf : L.first = L0.first) : Open9 L V N := by
  have ea : L.a = L0.a := by funext i; unfold Lg.a; rw [hb, hz]
  have eb' : L.b = L0.b := by funext i; unfold Lg.b; rw [hb, hz]
  unfold Open9
  rw [ea, eb', hf, hz]
  exact h
def OpenT (w0 w : World) (b : Nat) (base size first : Int) (n : Int) (all : List Ent) (eb mb : Int → Bool) (O : List Nat) (e : Ending) (w' : World) : Prop :=
  ∃ q L V, e = .returned (.tuple #[.pointer (some ⟨q, 0, none⟩), .int .i64 0]) ∧ LgX w0 w' q b L n V O ∧ Kept O w w' ∧ Tells L V all eb (fun i => mb i && eb i) (fun i => !(eb i && mb i)) ∧ Open9 L V all.length ∧ L.base = base ∧ L.size = size ∧ L.first = first
theorem open_t {w0 w : World} {b : Nat} {n : Int} {V : Int → Sl} {O : List Nat} (h : DevX w0 w b n V O) {L0 : Lg} {all : List Ent} {eb mb : Int → Bool} (hl : LaidE L0 V all eb mb) (ho : Open9 L0 V all.length) (base size first : Int) (hb : L0.base = base) (hz : L0.size = size) (hf : L0.first = first)
    (h1 : 0 ≤ base) (h2 : 1 ≤ size) (h3 : base + 2 * size ≤ n) (h4 : 1 ≤ first) (h5 : first ≤ 1000000000) :
    Calls Try.prog 20 #[.pointer (some ⟨b, 0, none⟩), .int .i64 base, .int .i64 size, .int .i64 first] w (OpenT w0 w b base size first n all eb mb O) := by
  refine (open_o h base size first h1 h2 h3 h4 h5).mono ?_
  rintro e w' ⟨q, L, V1, V2, he, hx, hk, e1, e2, e3, hs, hend, hr, hc, -⟩
  obtain ⟨r1, r2, r3⟩ := open_law hx.ok (hl.like (L := L) (by rw [e1, hb]) (by rw [e2, hz]) (by rw [e3, hf])) (ho.like (L := L) (by rw [e1, hb]) (by rw [e2, hz]) (by rw [e3, hf])) hs hend hr hc
  exact ⟨q, L, V2, he, hx, hk, r1.tells r2, r3, e1, e2, e3⟩
theorem one_app {L : Lg} {V : Int → Sl} (hS : Solid L V []) (hz : L.size = 8) (hf : L.first = 1) {t : Int} {d : List UInt8} (h1 : 1 ≤ t) (h2 : t ≤ 1099511627776) (h3 : d.length ≤ 488) : L.appE [⟨1, t, d⟩] = 0 := by
  have hl := hS.last
  have hn := hS.len
  unfold Lg.appE
  rw [hn, hz, if_neg (by simp), hl, hf]
  unfold chkE chkE
  rw [if_neg (by simp), if_neg (by unfold Ent.bad; simp only; omega)]
def ex1 : Ent := ⟨1, 4, [120]⟩
set_option maxRecDepth 100000 in
set_option maxHeartbeats 3200000 in
theorem head6_any (w : World) : Calls Try.prog 11 #[] w fun e w' => e = .returned (.bool true) ∧ Ext [] w w' := by
  have cn := new_x w w (Ext.refl _ _) 20 (by omega) (by omega) [] (by simp)
  go_enter Try.func11, Try.ntmps11
  go_upto_region 2 with (first
    | (go_at_call 34; (with_reducible refine cn.mono ?_); rintro e w1 ⟨b, rfl, hd, hx1⟩; have co := open_s hd (Solid.new 2 8 1 (by omega)) 2 8 1 rfl rfl rfl (by omega) (by omega) (by omega) (by omega) (by omega); clear hd hx1 cn))
  go_upto_region 3 with (first
    | (go_at_call 20; (with_reducible refine co.mono ?_); rintro e w2 ⟨q, L, V, rfl, hl, hk, hS, e1, e2, e3⟩; have HL := Hid.of hl; have HS := Hid.of hS; have HE := Hid.of (And.intro e1 (And.intro e2 e3)); clear hl hk hS e1 e2 e3 co))
  obtain ⟨W, hW⟩ : ∃ W, W = w2.alloc (.cells #[.int .i64 1, .int .i64 4, .string ⟨#[120]⟩] 37) := ⟨_, rfl⟩
  have hRd : Rd W 3 (.slice (some ⟨w2.heap.size, 0, none⟩) 1 1) 1 ([ex1].flatMap Ent.cells) := by rw [hW]; exact Rd.lit w2 #[.int .i64 1, .int .i64 4, .string ⟨#[120]⟩] 37 3 1 rfl (by unfold maxLen; omega)
  have hA := (HL.out.add (w' := W) (by rw [hW]; exact (Ext.refl _ _).alloc _) w2.heap.size (Nat.le_refl _) (by rw [hW]; simp)).append [ex1] (some ⟨w2.heap.size, 0, none⟩) 1 1 hRd (by simp [vblocks]) (by intro e he; rw [List.mem_singleton.1 he]; exact ⟨⟨by decide, by decide⟩, ⟨by decide, by decide⟩, by unfold maxLen; decide⟩)
  have h0 : L.appE [ex1] = 0 := one_app HS.out HE.out.2.1 HE.out.2.2 (by omega) (by omega) (by simp)
  have hS1 := HS.out.append HL.out.ok h0
  have e1 : (L.appL [ex1]).base = 2 ∧ (L.appL [ex1]).size = 8 ∧ (L.appL [ex1]).first = 1 := by
    unfold Lg.appL; rw [if_pos h0]; exact HE.out
  rw [h0] at hA
  generalize L.appL [ex1] = L1 at hA hS1 e1
  generalize L.appV [ex1] V = V1 at hA hS1
  have HS1 := Hid.of hS1
  have HE1 := Hid.of e1
  rw [hW] at hA
  clear h0 hS1 e1 hRd HL HS hW
  go_upto_region 5 with (first
    | (go_at_call 26; (with_reducible refine hA.mono ?_); rintro e w3 ⟨rfl, hl3, hk3⟩; have HL3 := Hid.of hl3; clear hl3 hk3 hA))
  have cl := HL3.out.lose 3 (by omega) (by omega)
  have hok := HL3.out.ok
  have hab : ∀ i, L1.a i < L1.base + L1.size ∧ L1.base + L1.size ≤ L1.b i := fun i => (hok.ab i).2.2.2.2
  have ea : L1.a (L1.first + ((0 : Nat) : Int)) = 3 := by unfold Lg.a; rw [HE1.out.1, HE1.out.2.1, HE1.out.2.2]; rfl
  have hld := HS1.out.laid.loseE hab (j := 0) (by simp)
  have hop := HS1.out.free.loseE HS1.out.laid.pos hab (j := 0) (by simp) badS
  rw [ea] at hld hop
  have HLd := Hid.of hld
  have HOp := Hid.of hop
  clear hld hop ea hab hok
  go_upto_region 6 with (first
    | (go_at_call 28; (with_reducible refine cl.mono ?_); rintro e w4 ⟨rfl, hl4, hk4⟩; have co4 := open_t hl4.dev HLd.out HOp.out 2 8 1 HE1.out.1 HE1.out.2.1 HE1.out.2.2 (by omega) (by omega) (by omega) (by omega) (by omega); clear hl4 hk4 cl))
  go_upto_region 9 with (first
    | (go_at_call 20; (with_reducible refine co4.mono ?_); rintro e w5 ⟨q5, L5, V5, rfl, hl5, hk5, hT5, hO5, e1, e2, e3⟩; have HL5 := Hid.of hl5; have HT5 := Hid.of hT5; have HE5 := Hid.of (And.intro e1 (And.intro e2 e3)); clear hl5 hk5 hT5 hO5 e1 e2 e3 co4))
  have hr := HT5.out.read 0 (by simp) (by decide)
  have e5 : L5.first + ((0 : Nat) : Int) = 1 := by rw [HE5.out.2.2]; rfl
  have ee : orIf noBad (L1.first + ((0 : Nat) : Int)) 1 = true := by rw [HE1.out.2.2]; rfl
  rw [e5, ee] at hr
  have hans : answers ([] ++ [ex1])[0] true (!(true && noBad 1)) = (⟨1, 4, []⟩, 2) := rfl
  rw [hans] at hr
  have cr := HL5.out.read 1
  rw [hr.1, hr.2] at cr
  have hlast : L5.last = 1 := by have := HT5.out.last; rw [this, HE5.out.2.2]; rfl
  have hlb : LeastBad L5.first ((([] ++ [ex1] : List Ent).length : Nat) : Int) (orIf noBad (L1.first + ((0 : Nat) : Int))) 1 := by
    rw [HE5.out.2.2, HE1.out.2.2]
    exact .inr ⟨by omega, by simp, rfl, fun i h1 h2 => by omega⟩
  have ch := fun O w' (hx : LgX w w' q5 b L5 20 V5 O) => hx.hurt_c (HT5.out.least hlb)
  have cl5 := fun O w' (hx : LgX w w' q5 b L5 20 V5 O) => hx.last_c
  rw [hlast] at cl5
  simp only [Ent.val] at cr
  clear hr e5 ee hans hlast hlb
  go_wp2_with (first
    | (go_at_call 18; (with_reducible refine cr.mono ?_); rintro e w6 ⟨rfl, hl6, hk6⟩; have HL6 := Hid.of (hl6.keep ((Ext.refl [] w6).alloc (.cells #[.int .i64 1, .int .i64 4, .string ⟨#[]⟩] 37))); clear hl6 hk6 cr)
    | (go_at_call 19; (with_reducible refine (ch _ _ HL6.out).mono ?_); rintro e w7 ⟨rfl, hx7⟩; have HL7 := Hid.of (HL6.out.keep hx7); clear hx7 ch)
    | (go_at_call 21; (with_reducible refine (cl5 _ _ HL7.out).mono ?_); rintro e w8 ⟨rfl, hx8⟩; have HL8 := Hid.of (HL7.out.keep hx8); clear hx8 cl5))
  go_ret
  exact ⟨rfl, HL8.out.ext⟩
end Go.Proofs.Ytmjgbkepngeckaa
namespace Go.Proofs.Ytmjgbkepngeckaa
open Go.RowKit
set_option linter.unusedVariables false
set_option linter.unusedSimpArgs false

/-- A world that has just these entries, all of them good. -/
def St (w0 w : World) (wq b q : Nat) (first : Int) (va vm : Value) (all : List Ent) (O : List Nat) : Prop := ∃ L V, Wo w0 w wq b q first va vm L V O ∧ Solid L V all ∧ L.base = 3 ∧ L.size = 8 ∧ L.first = first
section
variable {w0 w : World} {wq b q : Nat} {first : Int} {va vm : Value} {all : List Ent} {O : List Nat}
theorem NewW.st {e : Ending} {w' : World} (h : NewW w0 w O e w') : ∃ wq b q, e = .returned (.pointer (some ⟨wq, 0, none⟩)) ∧ St w0 w' wq b q 1 (.slice none 0 0) (.slice none 0 0) [] O ∧ Kept O w w' := by
  obtain ⟨wq, b, q, L, V, he, hw, hk, hs, e1, e2, e3⟩ := h
  exact ⟨wq, b, q, he, ⟨L, V, hw, hs, e1, e2, e3⟩, hk⟩
theorem St.keep {w' : World} (h : St w0 w wq b q first va vm all O) (hx : Ext [] w w') : St w0 w' wq b q first va vm all O := by
  obtain ⟨L, V, h1, h2⟩ := h
  exact ⟨L, V, h1.keep hx, h2⟩
theorem St.blk (h : St w0 w wq b q first va vm all O) : Blk w wq 35 [.pointer (some ⟨b, 0, none⟩), .pointer (some ⟨q, 0, none⟩), .int .i64 first, va, vm] := by
  obtain ⟨L, V, h1, h2⟩ := h
  exact h1.blk
theorem St.ext (h : St w0 w wq b q first va vm all O) : Ext [] w0 w := by
  obtain ⟨L, V, h1, h2⟩ := h
  exact h1.log.ext
theorem St.len (h : St w0 w wq b q first va vm all O) : all.length ≤ 8 := by
  obtain ⟨L, V, h1, h2, _, h3, _⟩ := h
  have := h2.laid.len
  omega
theorem St.first_rng (h : St w0 w wq b q first va vm all O) : 1 ≤ first ∧ first ≤ 1000000000 := by
  obtain ⟨L, V, h1, h2, _, h3, h4⟩ := h
  have := h1.log.ok.first
  have := h1.log.ok.firstb
  omega
theorem St.idx (h : St w0 w wq b q first va vm all O) (k : Nat) (hk : k < all.length) : all[k].idx = first + k := by
  obtain ⟨L, V, h1, h2, _, h3, h4⟩ := h
  rw [h2.laid.idx k hk, h4]
theorem St.lt (h : St w0 w wq b q first va vm all O) : ∀ z ∈ O, z < w.heap.size := by
  obtain ⟨L, V, h1, h2⟩ := h
  exact fun z hz => h1.log.lt z (by simp [hz])
theorem St.sub {O' : List Nat} (h : St w0 w wq b q first va vm all O) (hs : ∀ z ∈ O', z ∈ O) : St w0 w wq b q first va vm all O' := by
  obtain ⟨L, V, h1, h2⟩ := h
  exact ⟨L, V, ⟨h1.blk, h1.log.sub (fun z hz => by simp only [List.mem_cons] at hz ⊢; exact hz.imp id (hs z)), h1.new, fun hm => h1.ne (hs _ hm)⟩, h2⟩
theorem St.add {w' : World} (h : St w0 w wq b q first va vm all O) (hx : Ext [] w w') (z : Nat) (h1 : w.heap.size ≤ z) (h2 : z < w'.heap.size) : St w0 w' wq b q first va vm all (z :: O) := by
  obtain ⟨L, V, h3, h4⟩ := h
  have hl := Blk.lt h3.blk
  refine ⟨L, V, ⟨Blk.keep h3.blk hx (by simp), (h3.log.add hx z h1 h2).sub (fun y hy => ?_), h3.new, ?_⟩, h4⟩
  · simp only [List.mem_cons] at hy ⊢
    rcases hy with h | h | h
    · exact .inr (.inl h)
    · exact .inl h
    · exact .inr (.inr h)
  · simp only [List.mem_cons, not_or]
    exact ⟨by omega, h3.ne⟩
theorem St.new0 (h : St w0 w wq b q first va vm all O) : w0.heap.size ≤ wq ∧ wq < w.heap.size ∧ wq ∉ O := by
  obtain ⟨L, V, h1, h2⟩ := h
  exact ⟨h1.new, Blk.lt h1.blk, h1.ne⟩
/-- Its block written. -/
theorem St.set {w' : World} {first' : Int} {va' vm' : Value} (h : St w0 w wq b q first va vm all O) (hx : Ext [wq] w w') (hb : Blk w' wq 35 [.pointer (some ⟨b, 0, none⟩), .pointer (some ⟨q, 0, none⟩), .int .i64 first', va', vm']) (hf : first' = first) :
    St w0 w' wq b q first' va' vm' all O ∧ Kept O w w' := by
  subst hf
  obtain ⟨L, V, h1, h2⟩ := h
  refine ⟨⟨L, V, ⟨hb, h1.log.other hx (by simp) h1.new, h1.new, h1.ne⟩, h2⟩, fun z hz o ho => hx.heap (fun hm => ?_) ho⟩
  simp at hm
  exact h1.ne (hm ▸ hz)
theorem Wo.kept {w' : World} {L L' : Lg} {V V' : Int → Sl} (h : Wo w0 w wq b q first va vm L V O) (hl : LgX w0 w' q b L' 19 V' (wq :: O)) (hk : Kept (wq :: O) w w') : Wo w0 w' wq b q first va vm L' V' O :=
  ⟨hk.blk h.blk (by simp), hl, h.new, h.ne⟩
theorem St.first_c (h : St w0 w wq b q first va vm all O) : Calls Try.prog 29 #[.pointer (some ⟨q, 0, none⟩)] w fun e w' => e = .returned (.int .i64 first) ∧ Ext [] w w' := by
  obtain ⟨L, V, h1, h2, _, _, h4⟩ := h
  have := h1.log.first
  rwa [h4] at this
theorem St.last_c (h : St w0 w wq b q first va vm all O) : Calls Try.prog 21 #[.pointer (some ⟨q, 0, none⟩)] w fun e w' => e = .returned (.int .i64 (first + all.length - 1)) ∧ Ext [] w w' := by
  obtain ⟨L, V, h1, h2, _, _, h4⟩ := h
  have := h1.log.last_c
  rwa [h2.last, h4] at this
theorem St.room_c (h : St w0 w wq b q first va vm all O) : Calls Try.prog 32 #[.pointer (some ⟨q, 0, none⟩)] w fun e w' => e = .returned (.int .i64 (8 - (all.length : Int))) ∧ Ext [] w w' := by
  obtain ⟨L, V, h1, h2, _, h3, h4⟩ := h
  have := h1.log.room
  rwa [h2.len, h3] at this
theorem St.hurt_c (h : St w0 w wq b q first va vm all O) : Calls Try.prog 19 #[.pointer (some ⟨q, 0, none⟩)] w fun e w' => e = .returned (.int .i64 0) ∧ Ext [] w w' := by
  obtain ⟨L, V, h1, h2, _, h3, h4⟩ := h
  exact h1.log.hurt_c h2.isHurt
theorem St.term_c (h : St w0 w wq b q first va vm all O) (k : Nat) (hk : k < all.length) : Calls Try.prog 33 #[.pointer (some ⟨q, 0, none⟩), .int .i64 (first + k)] w fun e w' => e = .returned (.int .i64 all[k].term) ∧ Ext [] w w' := by
  obtain ⟨L, V, h1, h2, _, h3, h4⟩ := h
  have := h1.log.term_c (L.first + k)
  rwa [h2.term k hk, h4] at this
theorem St.term0 (h : St w0 w wq b q first va vm all O) : Calls Try.prog 33 #[.pointer (some ⟨q, 0, none⟩), .int .i64 (first + all.length)] w fun e w' => e = .returned (.int .i64 0) ∧ Ext [] w w' := by
  obtain ⟨L, V, h1, h2, _, h3, h4⟩ := h
  have := h1.log.term_c (L.first + all.length)
  rwa [h2.term0, h4] at this
theorem St.read (h : St w0 w wq b q first va vm all O) (k : Nat) (hk : k < all.length) : Calls Try.prog 18 #[.pointer (some ⟨q, 0, none⟩), .int .i64 (first + k)] w fun e w' => e = .returned (.tuple #[all[k].val, .int .i64 1]) ∧ St w0 w' wq b q first va vm all O ∧ Kept O w w' := by
  obtain ⟨L, V, h1, h2, e1, h3, h4⟩ := h
  have := h1.log.read (L.first + k)
  rw [(h2.read k hk).1, (h2.read k hk).2, h4] at this
  refine this.mono ?_
  rintro e w' ⟨rfl, hl, hk⟩
  exact ⟨rfl, ⟨L, V, h1.kept hl hk, h2, e1, h3, h4⟩, hk.sub (fun z hz => by simp [hz])⟩
theorem St.read0 (h : St w0 w wq b q first va vm all O) (i : Int) (hi : i < first ∨ first + all.length ≤ i) : Calls Try.prog 18 #[.pointer (some ⟨q, 0, none⟩), .int .i64 i] w fun e w' => e = .returned (.tuple #[Ent.zero.val, .int .i64 0]) ∧ St w0 w' wq b q first va vm all O ∧ Kept O w w' := by
  obtain ⟨L, V, h1, h2, e1, h3, h4⟩ := h
  have := h1.log.read i
  have hl := h2.last
  have ho : i < L.first ∨ L.last < i := by omega
  rw [(read_out ho).1, (read_out ho).2] at this
  refine this.mono ?_
  rintro e w' ⟨rfl, hl, hk⟩
  exact ⟨rfl, ⟨L, V, h1.kept hl hk, h2, e1, h3, h4⟩, hk.sub (fun z hz => by simp [hz])⟩
/-- What Append answers. -/
def appE8 (first : Int) (all es : List Ent) : Int := if 8 - (all.length : Int) < (es.length : Int) then 4 else chkE (first + all.length) es
def appA8 (first : Int) (all es : List Ent) : List Ent := if appE8 first all es = 0 then all ++ es else all
theorem St.append (h : St w0 w wq b q first va vm all O) (es : List Ent) (a : Option Addr) (len cap : Nat) (hR : Rd w 3 (.slice a len cap) len (es.flatMap Ent.cells)) (hO : ∀ z ∈ vblocks (.slice a len cap), z ∈ O) (hes : ∀ e ∈ es, e.i64) :
    Calls Try.prog 26 #[.pointer (some ⟨q, 0, none⟩), .slice a len cap] w fun e w' => e = .returned (.int .i64 (appE8 first all es)) ∧ St w0 w' wq b q first va vm (appA8 first all es) O ∧ Kept O w w' := by
  obtain ⟨L, V, h1, h2, e1, h3, h4⟩ := h
  have hl := h2.last
  have hE : L.appE es = appE8 first all es := by
    unfold Lg.appE appE8
    rw [h2.len, h3, hl, h4]
    congr 2
    omega
  refine (h1.log.append es a len cap hR (fun z hz => by simp [hO z hz]) hes).mono ?_
  rintro e w' ⟨rfl, hlx, hk⟩
  rw [hE]
  refine ⟨rfl, ?_, hk.sub (fun z hz => by simp [hz])⟩
  by_cases h0 : appE8 first all es = 0
  · have h0' : L.appE es = 0 := by rw [hE]; exact h0
    have eL : L.appL es = L.grow es := if_pos h0'
    have eA : appA8 first all es = all ++ es := if_pos h0
    rw [eA]
    exact ⟨L.appL es, L.appV es V, h1.kept hlx hk, h2.append h1.log.ok h0', by rw [eL]; exact e1, by rw [eL]; exact h3, by rw [eL]; exact h4⟩
  · have h0' : L.appE es ≠ 0 := by rw [hE]; exact h0
    have eL : L.appL es = L := if_neg h0'
    have eV : L.appV es V = V := if_neg h0'
    have eA : appA8 first all es = all := if_neg h0
    rw [eL, eV] at hlx
    rw [eA]
    exact ⟨L, V, h1.kept hlx hk, h2, e1, h3, h4⟩
theorem St.cutc (h : St w0 w wq b q first va vm all O) (m : Nat) (hm : m < all.length) : Calls Try.prog 30 #[.pointer (some ⟨q, 0, none⟩), .int .i64 (first + m)] w fun e w' => e = .returned (.int .i64 0) ∧ St w0 w' wq b q first va vm (all.take m) O ∧ Kept O w w' := by
  obtain ⟨L, V, h1, h2, e1, h3, h4⟩ := h
  have hl := h2.last
  subst h4
  refine (h1.log.cutc (L.first + m) (by omega) (by omega)).mono ?_
  rintro e w' ⟨rfl, V', hc, hlx, hk⟩
  exact ⟨rfl, ⟨L.cut (L.first + m), V', h1.kept hlx hk, h2.cut hm (fun i => (h1.log.ok.ab i).2.2.2.2) hc, e1, h3, rfl⟩, hk.sub (fun z hz => by simp [hz])⟩
theorem St.cut_end (h : St w0 w wq b q first va vm all O) : Calls Try.prog 30 #[.pointer (some ⟨q, 0, none⟩), .int .i64 (first + all.length)] w fun e w' => e = .returned (.int .i64 0) ∧ Ext [] w w' := by
  obtain ⟨L, V, h1, h2, e1, h3, h4⟩ := h
  have := h1.log.cut_end
  rw [h2.last, h4] at this
  have e : first + (all.length : Int) - 1 + 1 = first + all.length := by omega
  rwa [e] at this
theorem St.cut_err (h : St w0 w wq b q first va vm all O) (i : Int) (hi : i < first ∨ first + all.length < i) : Calls Try.prog 30 #[.pointer (some ⟨q, 0, none⟩), .int .i64 i] w fun e w' => e = .returned (.int .i64 1) ∧ Ext [] w w' := by
  obtain ⟨L, V, h1, h2, e1, h3, h4⟩ := h
  have hl := h2.last
  exact h1.log.cut_err i (by omega)
theorem St.drop_err (h : St w0 w wq b q first va vm all O) (i : Int) (hi : i < first ∨ first + all.length < i) : Calls Try.prog 27 #[.pointer (some ⟨q, 0, none⟩), .int .i64 i] w fun e w' => e = .returned (.int .i64 1) ∧ Ext [] w w' := by
  obtain ⟨L, V, h1, h2, e1, h3, h4⟩ := h
  have hl := h2.last
  exact h1.log.drop_err i (by omega)
theorem St.mend_arg (h : St w0 w wq b q first va vm all O) (x : Ent) (hx : first + all.length ≤ x.idx) (hx2 : x.idx ≤ 9223372036854775807) : Calls Try.prog 22 #[.pointer (some ⟨q, 0, none⟩), x.val] w fun e w' => e = .returned (.int .i64 1) ∧ Ext [] w w' := by
  obtain ⟨L, V, h1, h2, e1, h3, h4⟩ := h
  have hl := h2.last
  exact h1.log.mend_arg x (by omega) hx2
/-- The log behind Drop: the world's block is behind. -/
theorem St.dropc (h : St w0 w wq b q first va vm all O) (m : Nat) (hm : m ≤ all.length) (hm2 : first + m ≤ 1000000000) : Calls Try.prog 27 #[.pointer (some ⟨q, 0, none⟩), .int .i64 (first + m)] w fun e w' => e = .returned (.int .i64 0) ∧ Kept (wq :: O) w w' ∧ Blk w' wq 35 [.pointer (some ⟨b, 0, none⟩), .pointer (some ⟨q, 0, none⟩), .int .i64 first, va, vm] ∧
    ∀ w'' va' vm', Ext [wq] w' w'' → Blk w'' wq 35 [.pointer (some ⟨b, 0, none⟩), .pointer (some ⟨q, 0, none⟩), .int .i64 (first + m), va', vm'] → St w0 w'' wq b q (first + m) va' vm' (all.drop m) O ∧ Kept O w' w'' := by
  obtain ⟨L, V, h1, h2, e1, h3, h4⟩ := h
  have hl := h2.last
  subst h4
  refine (h1.log.dropc (L.first + m) (by omega) (by omega) hm2).mono ?_
  rintro e w' ⟨rfl, hlx, hk⟩
  refine ⟨rfl, hk, hk.blk h1.blk (by simp), fun w'' va' vm' hx hb => ⟨⟨L.drop (L.first + m), V, ⟨hb, hlx.other hx (by simp) h1.new, h1.new, h1.ne⟩, h2.drop hm, e1, h3, rfl⟩, fun z hz o ho => hx.heap (fun hmm => ?_) ho⟩⟩
  simp at hmm
  exact h1.ne (hmm ▸ hz)
/-- Opened again on its device: the world's block is behind. -/
theorem St.openc (h : St w0 w wq b q first va vm all O) : Calls Try.prog 20 #[.pointer (some ⟨b, 0, none⟩), .int .i64 3, .int .i64 8, .int .i64 first] w fun e w' => ∃ q', e = .returned (.tuple #[.pointer (some ⟨q', 0, none⟩), .int .i64 0]) ∧ Kept (wq :: O) w w' ∧ Blk w' wq 35 [.pointer (some ⟨b, 0, none⟩), .pointer (some ⟨q, 0, none⟩), .int .i64 first, va, vm] ∧
    ∀ w'' va' vm', Ext [wq] w' w'' → Blk w'' wq 35 [.pointer (some ⟨b, 0, none⟩), .pointer (some ⟨q', 0, none⟩), .int .i64 first, va', vm'] → St w0 w'' wq b q' first va' vm' all O ∧ Kept O w' w'' := by
  have hfr := h.first_rng
  obtain ⟨L, V, h1, h2, e1, h3, h4⟩ := h
  refine (open_s h1.log.dev h2 3 8 first e1 h3 h4 (by omega) (by omega) (by omega) hfr.1 hfr.2).mono ?_
  rintro e w' ⟨q', L', V', rfl, hl, hk, hS, g1, g2, g3⟩
  refine ⟨q', rfl, hk, hk.blk h1.blk (by simp), fun w'' va' vm' hx hb => ⟨⟨L', V', ⟨hb, hl.other hx (by simp) h1.new, h1.new, h1.ne⟩, hS, g1, g2, g3⟩, fun z hz o ho => hx.heap (fun hmm => ?_) ho⟩⟩
  simp at hmm
  exact h1.ne (hmm ▸ hz)
theorem St.open_err (h : St w0 w wq b q first va vm all O) (base size fi : Int)
    (hb : base < 0 ∨ (0 ≤ base ∧ size < 1) ∨ (0 ≤ base ∧ 1 ≤ size ∧ fi < 1) ∨ (0 ≤ base ∧ base ≤ 19 ∧ 1 ≤ size ∧ 1 ≤ fi ∧ 19 < base + 2 * size)) (h2 : -9223372036854775808 ≤ base) (h3 : base ≤ 9223372036854775807) :
    Calls Try.prog 20 #[.pointer (some ⟨b, 0, none⟩), .int .i64 base, .int .i64 size, .int .i64 fi] w fun e w' => e = .returned (.tuple #[.pointer none, .int .i64 1]) ∧ Ext [] w w' := by
  obtain ⟨L, V, h1, _⟩ := h
  exact Go.Proofs.Ytmjgbkepngeckaa.open_err h1.log.dev base size fi hb h2 h3
end
end Go.Proofs.Ytmjgbkepngeckaa
namespace Go.Proofs.Ytmjgbkepngeckaa
open Go.RowKit
set_option linter.unusedVariables false
set_option linter.unusedSimpArgs false

/-- A call with one entry, in a row of its own. -/
theorem St.append1 {w0 w : World} {wq b q : Nat} {first : Int} {va vm : Value} {all : List Ent} {O : List Nat} (h : St w0 w wq b q first va vm all O) (x : Ent) (hx : x.i64) (w' : World) (z : Nat) (hx' : Ext [] w w') (h1 : w.heap.size ≤ z) (hb : Blk w' z 37 x.cells) :
    Calls Try.prog 26 #[.pointer (some ⟨q, 0, none⟩), .slice (some ⟨z, 0, none⟩) 1 1] w' fun e w2 => e = .returned (.int .i64 (appE8 first all [x])) ∧ St w0 w2 wq b q first va vm (appA8 first all [x]) O ∧ Kept O w w2 := by
  have hR : Rd w' 3 (.slice (some ⟨z, 0, none⟩) 1 1) 1 ([x].flatMap Ent.cells) := by
    refine ⟨rfl, some ⟨z, 0, none⟩, 1, rfl, Nat.le_refl _, by unfold maxLen; omega, (fun h => by cases h), fun g hg j u hu => ?_⟩
    cases hg
    rw [Addr.add_lit, Nat.zero_add, Blk.c hb j]
    simpa using hu
  refine ((h.add hx' z h1 (Blk.lt hb)).append [x] (some ⟨z, 0, none⟩) 1 1 hR (by simp [vblocks]) (by simpa using hx)).mono ?_
  rintro e w2 ⟨rfl, h2, hk⟩
  exact ⟨rfl, h2.sub (fun y hy => by simp [hy]), (Kept.of hx').trans (hk.sub (fun y hy => by simp [hy]))⟩
theorem ent_i64 {i t : Int} {d : List UInt8} (h1 : -9223372036854775808 ≤ i) (h2 : i ≤ 9223372036854775807) (h3 : -9223372036854775808 ≤ t) (h4 : t ≤ 9223372036854775807) (h5 : d.length ≤ 9223372036854775807) : (⟨i, t, d⟩ : Ent).i64 := ⟨⟨h1, h2⟩, ⟨h3, h4⟩, by unfold maxLen; exact h5⟩
theorem appE8_next {first : Int} {all : List Ent} {x : Ent} (h : all.length < 8) (hi : x.idx = first + all.length) (hb : ¬ x.bad) : appE8 first all [x] = 0 := by
  unfold appE8 chkE chkE
  rw [if_neg (by simp; omega), if_neg (fun h => h hi), if_neg hb]
theorem appE8_bad {first : Int} {all : List Ent} {x : Ent} (h : all.length < 8) (hi : x.idx = first + all.length) (hb : x.bad) : appE8 first all [x] = 1 := by
  unfold appE8 chkE
  rw [if_neg (by simp; omega), if_neg (fun h => h hi), if_pos hb]
theorem appE8_gap {first : Int} {all : List Ent} {x : Ent} (h : all.length < 8) (hi : x.idx ≠ first + all.length) : appE8 first all [x] = 8 := by
  unfold appE8 chkE
  rw [if_neg (by simp; omega), if_pos hi]
end Go.Proofs.Ytmjgbkepngeckaa
