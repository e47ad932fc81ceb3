/- Package plog: Cut. Package plog: Drop. Package plog: Scrub, Mend. -/
import Derived.Test.YtmjgbkepngeckaaPla
namespace Go.Proofs.Ytmjgbkepngeckaa
open Go.RowKit
set_option linter.unusedVariables false
set_option linter.unusedSimpArgs false

def Lg.cut (L : Lg) (lo : Int) : Lg := { L with terms := L.terms.take (lo - L.first).toNat, hurt := fun x => L.hurt x && decide (x < lo) }
def Lg.drop (L : Lg) (lo : Int) : Lg := { L with first := lo, terms := L.terms.drop (lo - L.first).toNat, hurt := fun x => L.hurt x && decide (lo ≤ x) }
/-- What is left of the damage while some of it is let go. -/
structure Sieve (h : Int → Bool) (P : Int → Bool) (h' : Int → Bool) (left : Int → Prop) : Prop where
  sub : ∀ x, h' x = true → h x = true
  keep : ∀ x, h x = true → P x = true → h' x = true
  done : ∀ x, h' x = true → ¬ left x → P x = true
theorem Sieve.start (h P : Int → Bool) (left : Int → Prop) (hl : ∀ x, h x = true → left x) : Sieve h P h left := ⟨fun _ h => h, fun _ h _ => h, fun x h1 h2 => absurd (hl x h1) h2⟩
theorem Sieve.del {h P h' : Int → Bool} {left : Int → Prop} (s : Sieve h P h' left) {x : Int} (hx : P x = false) : Sieve h P (setF h' x false) (fun z => (left z ∧ z ≠ x) ∧ z ≠ x) := by
  refine ⟨fun y hy => ?_, fun y h1 h2 => ?_, fun y hy hl => ?_⟩
  · by_cases e : y = x
    · subst e; rw [setF_same] at hy; cases hy
    · rw [setF_other _ _ _ _ e] at hy; exact s.sub y hy
  · by_cases e : y = x
    · subst e; rw [hx] at h2; cases h2
    · rw [setF_other _ _ _ _ e]; exact s.keep y h1 h2
  · by_cases e : y = x
    · subst e; rw [setF_same] at hy; cases hy
    · rw [setF_other _ _ _ _ e] at hy
      exact s.done y hy (fun h => hl ⟨⟨h, e⟩, e⟩)
theorem Sieve.skip {h P h' : Int → Bool} {left : Int → Prop} (s : Sieve h P h' left) {x : Int} (hx : P x = true) : Sieve h P h' (fun z => left z ∧ z ≠ x) := by
  refine ⟨s.sub, s.keep, fun y hy hl => ?_⟩
  by_cases e : y = x
  · subst e; exact hx
  · exact s.done y hy (fun h => hl ⟨h, e⟩)
theorem Sieve.fin {h P h' : Int → Bool} {left : Int → Prop} (s : Sieve h P h' left) (hl : ∀ x, ¬ left x) : h' = fun x => h x && P x := by
  funext x
  cases hx : h' x with
  | true => simp [s.sub x hx, s.done x hx (hl x)]
  | false =>
    cases h1 : h x with
    | false => rfl
    | true =>
      cases h2 : P x with
      | false => rfl
      | true => rw [s.keep x h1 h2] at hx; cases hx
theorem hurtF_some {h : Int → Bool} {x : Int} {v : Value} (hv : hurtF h x = some v) : h x = true := by
  unfold hurtF at hv
  split at hv
  · assumption
  · cases hv
theorem LgOk.cut {L : Lg} {n : Int} (h : LgOk L n) (lo : Int) : LgOk (L.cut lo) n :=
  ⟨h.base, h.size, h.fit, h.big, h.first, h.firstb, by show ((L.terms.take _).length : Int) ≤ L.size; have := h.len; rw [List.length_take]; omega, fun t ht => h.terms t (List.mem_of_mem_take ht), fun i hi => h.hurt i (by have : (L.hurt i && decide (i < lo)) = true := hi; simp at this; exact this.1)⟩
theorem wpl_itdelN {P : Program} {w : World} {b r : Nat} {f : Int → Option Value} {t k e : TypeId} {ops : Array Oper} {rest : List Oper} {a : Act} {Q : Exit → Act → World → Prop} {ty : TypeId} {pos : String} {after : Array Edge}
    {m x : Operand} {left : Int → Prop} {cnt : Nat} (ht : P.underlying t = some (.map k e)) (hk : P.underlying k = some (.int .i64)) (h : MapIt w b r f left cnt) (n : Int)
    (hm : a.eval m = .map (some b)) (hx : a.eval x = .int .i64 n)
    (hK : ∀ w' cnt', cnt' ≤ cnt → MapIt w' b r (fun x => if x = n then none else f x) (fun x => left x ∧ x ≠ n) cnt' → Ext [b] w w' → wpList P ops Q rest a w') :
    wpList P ops Q (⟨none, .call { callee := .builtin .delete, args := #[m, x], argTypes := #[t, k] }, ty, pos, after, none⟩ :: rest) a w :=
  wpl_itdel ht hk h n hm hx fun w' c h1 h2 h3 => by simpa [Act.put] using hK w' c h1 h2 h3
set_option maxRecDepth 100000 in
set_option maxHeartbeats 12800000 in
theorem cut_o {w0 w : World} {q b mb : Nat} {tv : Value} {D : Dv} {L : Lg} {n : Int} {V : Int → Sl} {O : List Nat} (h : LgAt w0 w q b mb tv D L n V 0 O) (lo : Int) (hlo : L.first ≤ lo) (hlo2 : lo ≤ L.last) :
    Calls Try.prog 30 #[.pointer (some ⟨q, 0, none⟩), .int .i64 lo] w fun e w' => e = .returned (.int .i64 0) ∧ ∃ V', CleanP (L.cut lo) lo 2 V V' ∧ LgSome w0 w w' q b mb (L.cut lo) n V' O := by
  obtain ⟨ta, tc, rfl⟩ := h.tv_slice
  have H0 := Hid.of h
  have hqw := Blk.lt h.blk
  have g1 := h.ok.first
  have g2 := h.ok.firstb
  have g3 := h.ok.size
  have g4 := h.ok.fit
  have g5 := h.ok.base
  have g6 := h.ok.big
  have g7 := h.ok.len
  have cl := fun w' (hx : Ext [] w w') => last_o w' (h.keep hx).blk h.ok h.tv_slice
  have hlast : L.last + 1 = L.first + L.terms.length := by unfold Lg.last; omega
  obtain ⟨M, hM⟩ : ∃ M, M = L.last := ⟨_, rfl⟩
  rw [← hM] at cl hlo2 hlast
  obtain ⟨K, hK⟩ : ∃ K, K = L.terms.length := ⟨_, rfl⟩
  have HK := Hid.of hK
  rw [← hK] at H0 hlast g7
  obtain ⟨m, hm⟩ : ∃ m : Nat, lo - L.first = (m : Int) := ⟨(lo - L.first).toNat, by omega⟩
  have hmK : m < K := by omega
  have HCs := Hid.of (fun w' (hx : Ext [] w w') => (H0.out.keep hx).blk.cells)
  obtain ⟨c0, c1, c2, c3, c4, c5⟩ := HCs.out w (Ext.refl _ _)
  clear hM hK h c0 c1 c2
  have hM1 : 0 ≤ M ∧ M ≤ 2000000000 := by omega
  obtain ⟨hM0, hM1⟩ := hM1
  have hlo3 : ¬ lo < L.first := by omega
  have hlo4 : ¬ M + 1 < lo := by omega
  have hlo5 : ¬ M < lo := by omega
  clear hlast
  go_enter Try.func30, Try.ntmps30
  go_upto_region 5 with (first
    | (go_at_call 21; (with_reducible refine (cl _ ?hx).mono ?_); (case hx => first | exact Ext.refl _ _ | exact HX1.out); intro e w2 hq; obtain ⟨rfl, hx2⟩ := QRet.ext hq; have HX1 := Hid.of (by first | exact HX1.out.then0 hx2 | exact hx2); clear hq hx2))
  obtain ⟨-, -, -, d3, d4, -⟩ := HCs.out w2 HX1.out
  have f4 : w2.frozen? ⟨q, 4, none⟩ = false := Blk.f (H0.out.keep HX1.out).blk 4
  have hcap : K ≤ tc := (Rd.len (H0.out.terms.rd)).2.1
  have hcap2 : tc ≤ 9223372036854775807 := by have := (Rd.len (H0.out.terms.rd)).2.2.1; unfold maxLen at this; omega
  clear c3 c4 c5
  go_region
  obtain ⟨W3, hW3⟩ : ∃ W, W = (w2.setCell ⟨q, 4, none⟩ (.slice ta m tc)).drew := ⟨_, rfl⟩
  have hb3 : LgB W3 q b mb (.slice ta m tc) (L.cut lo) := by rw [hW3]; exact Blk.keep (Blk.set (H0.out.keep HX1.out).blk 4 _) ((Ext.refl [] _).drew) (by simp)
  have x3 : Ext [q] w W3 := by rw [hW3]; exact (((HX1.out.mono (by simp)).setCell (.inl (by simp)) _).drew)
  have hmt : (lo - L.first).toNat = m := by omega
  have own3 : Own W3 3 1 (.slice ta m tc) (L.cut lo).terms.length (ints (L.cut lo).terms) := by
    have h1 := (H0.out.terms.keep x3 (fun k hk hm => by simp at hm; subst hm; exact H0.out.neq hk))
    rw [← HK.out] at h1
    have h2 := h1.take m (by omega)
    have e1 : (L.cut lo).terms = L.terms.take m := by show L.terms.take _ = _; rw [hmt]
    rw [e1, List.length_take, Nat.min_eq_left (by have := HK.out; omega)]
    have e2 : ints (L.terms.take m) = (ints L.terms).take (m * 1) := by rw [Nat.mul_one]; exact List.map_take
    rw [e2]
    exact h2
  have hvb : ∀ z ∈ vblocks (.slice ta m tc), z ∈ vblocks (.slice ta K tc) := fun z hz => by
    cases ta with
    | none => simp [vblocks] at hz
    | some g => simpa [vblocks] using hz
  rw [← hW3]
  have HT3 : Hid (∀ (wr : World), Ext [mb] W3 wr → MapAt wr mb (hurtF (fun x => L.hurt x && decide (x < lo))) → LgM w0 wr q b mb (.slice ta m tc) D (L.cut lo) n O ∧ Kept O w wr) := Hid.of (by
    intro wr hxr hmr
    have h0 := H0.out
    have hxw : Ext (q :: mb :: vblocks (.slice ta K tc)) w wr := (x3.mono (fun x hx => .inl (by simp at hx; simp [hx]))).trans hxr (fun x hx => .inl (by simp at hx; simp [hx]))
    refine h0.toLgM.turn (L' := L.cut lo) hxw ?_ ?_ hmr (h0.ok.cut lo) ?_
    · exact Blk.keep hb3 hxr (by simpa using h0.ne)
    · exact own3.keep hxr (fun k hk hm => by simp at hm; subst hm; exact h0.nem (hvb _ hk))
    · exact fun z hz => .inl (hvb z hz))
  have hm3 : MapAt W3 mb (hurtF L.hurt) := H0.out.hurt.keep x3 (by simpa using fun e => H0.out.ne e.symm)
  have c53 : W3.cell? ⟨q, 5, none⟩ = some (.map (some mb)) := hb3.cells.2.2.2.2.2
  have HNe : Hid (q ≠ mb) := Hid.of H0.out.ne
  clear hW3 x3 hb3 own3 d3 d4 f4
  go_wp2_with (first | (at_range; refine wpl_maprange Try.underlying84 hm3 rfl ?_; intro w4 cnt hit hx4 hlt4))
  go_frame
  obtain ⟨r, hr⟩ : ∃ r, r = W3.heap.size := ⟨_, rfl⟩
  rw [← hr] at hit hlt4
  have hrw : W3.heap.size ≤ r := by omega
  rw [← hr]
  have HC5 : Hid (∀ wr, Ext [mb] W3 wr → wr.cell? ⟨q, 5, none⟩ = some (.map (some mb))) := Hid.of (fun wr hx => hx.cell (by simpa using HNe.out) c53)
  clear hr hm3 c53
  go_loopw [] (fun wr => ∃ (h' : Int → Bool) (left : Int → Prop) (c : Nat), MapIt wr mb r (hurtF h') left c ∧ Hid (Sieve L.hurt (fun x => decide (x < lo)) h' left) ∧ Hid (Ext [mb] W3 wr)) (fun wr => itLeft wr mb r)
  case atStart => exact ⟨L.hurt, _, cnt, hit, Sieve.start _ _ _ (fun x hx => by simp [hurtF, hx]), hx4.mono (by simp)⟩
  case round =>
    clear hit hlt4 hx4
    obtain ⟨h', left, c, hit, hS, hX⟩ := hrel
    go_wp2_with (at_next; refine wpl_mapnext hit rfl ?_ ?_)
    · intro hl0
      have hf := hS.out.fin hl0
      rw [hf] at hit
      have HG := Hid.of (HT3.out wr hX.out hit.at)
      clear hit hf
      have HA := Hid.of (⟨HG.out.1, H0.out.fine⟩ : LgAt w0 wr q b mb (.slice ta m tc) D (L.cut lo) n V 0 O)
      have HKG := Hid.of HG.out.2
      have cc := clean_o HA.out lo hlo (by show lo ≤ L.first + L.size; omega)
      clear HG
      go_wp2_with (first
        | (go_at_call 43; (with_reducible refine cc.mono ?_); rintro e w9 ⟨rfl, D9, V9, hc9, hm9, hk9, -⟩; have HC9 := Hid.of hc9; have HM9 := Hid.of hm9; have HK9 := Hid.of hk9; clear hc9 hm9 hk9 cc))
      go_ret
      exact ⟨rfl, V9, HC9.out, _, D9, HM9.out, HKG.out.trans HK9.out⟩
    · intro x v w1 c' hlx hfx hit1 hltc hx1 hen
      have hX1 : Hid (Ext [mb] W3 w1) := hX.out.trans hx1 (fun z hz => .inr (by simp at hz; omega))
      have hcn := hit.cnt
      have c5' := HC5.out w1 hX1.out
      clear hx1 hX hlx hfx
      by_cases hp : x < lo
      · have HS2 := Hid.of (hS.out.skip (x := x) (decide_eq_true hp))
        have hcn1 := hit1.cnt
        have HM : Hid (itLeft w1 mb r < itLeft wr mb r) := by show _ < _; rw [hcn, hcn1]; exact hltc
        have HI := Hid.of hit1
        clear hit hit1 hltc hcn hcn1 hS
        have hp2 : ¬ lo ≤ x := by omega
        go_wp2
        exact ⟨⟨h', _, c', HI.out, HS2.out, hX1.out⟩, HM.out⟩
      · have HS2 := Hid.of (hS.out.del (x := x) (decide_eq_false hp))
        clear hit hS
        have hp2 : lo ≤ x := by omega
        go_wp2_with (at_delete; refine wpl_itdelN Try.underlying84 Try.underlying3 hit1 x rfl rfl ?_; intro w2 c2 hc2 hit2 hx2)
        have hcn2 := hit2.cnt
        have HM : Hid (itLeft w2 mb r < itLeft wr mb r) := by show _ < _; rw [hcn, hcn2]; omega
        have HI : Hid (MapIt w2 mb r (hurtF (setF h' x false)) (fun z => (left z ∧ z ≠ x) ∧ z ≠ x) c2) := Hid.of (by rw [← hurtF_del]; exact hit2)
        have hX2 : Hid (Ext [mb] W3 w2) := hX1.out.trans hx2 (by simp)
        clear hit1 hit2 hltc hcn hcn2 hx2 hX1
        exact ⟨⟨_, _, c2, HI.out, HS2.out, hX2.out⟩, HM.out⟩
end Go.Proofs.Ytmjgbkepngeckaa
namespace Go.Proofs.Ytmjgbkepngeckaa
open Go.RowKit
set_option linter.unusedVariables false
set_option linter.unusedSimpArgs false

theorem Own.drop {w : World} {e : TypeId} {size g off cap n : Nat} {xs : List Value} (h : Own w e size (.slice (some ⟨g, off, none⟩) n cap) n xs) (m : Nat) (hm : m ≤ n) :
    Own w e size (.slice (some ⟨g, off + m * size, none⟩) (n - m) (cap - m)) (n - m) (xs.drop (m * size)) := by
  refine ⟨by rw [List.length_drop, h.1, Nat.sub_mul], ?_⟩
  rcases h.2 with ⟨h', _⟩ | ⟨g', off', cap', cur, fz, h', hg, hfz, hn, hm', hc, ht⟩
  · cases h'
  · simp only [Value.slice.injEq, Option.some.injEq, Addr.mk.injEq, and_true] at h'
    obtain ⟨⟨rfl, rfl⟩, _, rfl⟩ := h'
    refine .inr ⟨g, off + m * size, cap - m, cur, fz, rfl, hg, hfz, by omega, by omega, ?_, ?_⟩
    · have : m * size + (cap - m) * size = cap * size := by rw [← Nat.add_mul]; congr 1; omega
      omega
    · rw [← ht, List.drop_take, List.drop_drop, Nat.sub_mul]
theorem Own.own0 {w : World} {e : TypeId} {size g off cap n : Nat} {xs : List Value} (h : Own w e size (.slice (some ⟨g, off, none⟩) n cap) n xs) : Own w e size (.slice (some ⟨g, off, none⟩) 0 0) 0 [] := by
  refine ⟨by simp, ?_⟩
  rcases h.2 with ⟨h', _⟩ | ⟨g', off', cap', cur, fz, h', hg, hfz, hn, hm', hc, ht⟩
  · cases h'
  · simp only [Value.slice.injEq, Option.some.injEq, Addr.mk.injEq, and_true] at h'
    obtain ⟨⟨rfl, rfl⟩, _, rfl⟩ := h'
    exact .inr ⟨g, off, 0, cur, fz, rfl, hg, hfz, by omega, by omega, by omega, by simp⟩
def dropSl (ta : Option Addr) (K tc m : Nat) : Value := match ta with | none => .slice none 0 0 | some g => if m = tc then .slice (some g) 0 0 else .slice (some (g.add m)) (K - m) (tc - m)
theorem LgOk.drop {L : Lg} {n : Int} (h : LgOk L n) {lo : Int} (h1 : L.first ≤ lo) (h2 : lo ≤ 1000000000) : LgOk (L.drop lo) n :=
  ⟨h.base, h.size, h.fit, h.big, by show 1 ≤ lo; have := h.first; omega, h2, by show ((L.terms.drop _).length : Int) ≤ L.size; have := h.len; rw [List.length_drop]; omega, fun t ht => h.terms t (List.mem_of_mem_drop ht), fun i hi => h.hurt i (by have : (L.hurt i && decide (lo ≤ i)) = true := hi; simp at this; exact this.1)⟩
set_option maxRecDepth 100000 in
set_option maxHeartbeats 12800000 in
theorem drop_o {w0 w : World} {q b mb : Nat} {tv : Value} {D : Dv} {L : Lg} {n : Int} {V : Int → Sl} {O : List Nat} (h : LgAt w0 w q b mb tv D L n V 0 O) (lo : Int) (hlo : L.first ≤ lo) (hlo2 : lo ≤ L.last + 1) (hlo9 : lo ≤ 1000000000) :
    Calls Try.prog 27 #[.pointer (some ⟨q, 0, none⟩), .int .i64 lo] w fun e w' => e = .returned (.int .i64 0) ∧ LgSome w0 w w' q b mb (L.drop lo) n V O := by
  obtain ⟨ta, tc, rfl⟩ := h.tv_slice
  have H0 := Hid.of h
  have hqw := Blk.lt h.blk
  have g1 := h.ok.first
  have g2 := h.ok.firstb
  have g3 := h.ok.size
  have g4 := h.ok.fit
  have g5 := h.ok.base
  have g6 := h.ok.big
  have g7 := h.ok.len
  have cl := fun w' (hx : Ext [] w w') => last_o w' (h.keep hx).blk h.ok h.tv_slice
  have hokd := h.ok.drop hlo hlo9
  have hlast : L.last + 1 = L.first + L.terms.length := by unfold Lg.last; omega
  obtain ⟨M, hM⟩ : ∃ M, M = L.last := ⟨_, rfl⟩
  rw [← hM] at cl hlo2 hlast
  obtain ⟨K, hK⟩ : ∃ K, K = L.terms.length := ⟨_, rfl⟩
  have HK := Hid.of hK
  rw [← hK] at H0 hlast g7
  obtain ⟨m, hm⟩ : ∃ m : Nat, lo - L.first = (m : Int) := ⟨(lo - L.first).toNat, by omega⟩
  have hmK : m ≤ K := by omega
  have hcap : K ≤ tc := (Rd.len (H0.out.terms.rd)).2.1
  have hcap2 : tc ≤ 9223372036854775807 := by have := (Rd.len (H0.out.terms.rd)).2.2.1; unfold maxLen at this; omega
  have hmt : (lo - L.first).toNat = m := by omega
  -- what the slice becomes
  obtain ⟨tv3, htv3⟩ : ∃ tv3 : Value, tv3 = dropSl ta K tc m := ⟨_, rfl⟩
  have hspl : ((ta = none ∧ K = 0 ∧ tc = 0) ∨ ∃ g off, ta = some ⟨g, off, none⟩) := by
    rcases H0.out.terms.2 with ⟨h1, h2⟩ | ⟨g', off', cap', cur, fz, h', _⟩
    · simp only [Value.slice.injEq] at h1
      exact .inl ⟨h1.1, h1.2.1, h1.2.2⟩
    · simp only [Value.slice.injEq] at h'
      exact .inr ⟨g', off', h'.1⟩
  have HOwn3 : Hid (∀ W3, Ext [q] w W3 → Own W3 3 1 tv3 (L.drop lo).terms.length (ints (L.drop lo).terms)) := Hid.of (by
    intro W3 x3
    have h1 := (H0.out.terms.keep x3 (fun k hk hm => by simp at hm; subst hm; exact H0.out.neq hk))
    rw [← HK.out] at h1
    have e1 : (L.drop lo).terms = L.terms.drop m := by show L.terms.drop _ = _; rw [hmt]
    have e2 : ints (L.terms.drop m) = (ints L.terms).drop (m * 1) := by rw [Nat.mul_one]; exact List.map_drop
    rw [e1, List.length_drop, e2, ← HK.out, htv3]
    rcases hspl with ⟨rfl, rfl, rfl⟩ | ⟨g, off, rfl⟩
    · have hm0 : m = 0 := by omega
      have hl0 : L.terms = [] := List.eq_nil_of_length_eq_zero HK.out.symm
      rw [hm0, hl0]
      exact Own.nil _ _ _
    · have h2 := h1.drop m hmK
      rw [Nat.mul_one] at h2
      simp only [dropSl, Addr.add_lit, Nat.mul_one]
      by_cases hmc : m = tc
      · have hKm : K = m := by omega
        rw [if_pos hmc]
        have h3 := h1.own0
        rw [← hKm, Nat.sub_self]
        have e3 : (ints L.terms).drop K = [] := List.drop_eq_nil_of_le (by rw [ints, List.length_map]; have := HK.out; omega)
        rw [e3]
        exact h3
      · rw [if_neg hmc]
        exact h2)
  have hvb : ∀ z ∈ vblocks tv3, z ∈ vblocks (.slice ta K tc) := fun z hz => by
    rw [htv3] at hz
    rcases hspl with ⟨rfl, rfl, rfl⟩ | ⟨g, off, rfl⟩
    · simp [dropSl, vblocks] at hz
    · simp only [dropSl] at hz
      split at hz <;> simpa [vblocks, Addr.add_lit] using hz
  have HCs := Hid.of (fun w' (hx : Ext [] w w') => (H0.out.keep hx).blk.cells)
  obtain ⟨c0, c1, c2, c3, c4, c5⟩ := HCs.out w (Ext.refl _ _)
  clear hM hK h c0 c1 c2
  have hM1 : 0 ≤ M ∧ M ≤ 2000000000 := by omega
  obtain ⟨hM0, hM1⟩ := hM1
  have hlo3 : ¬ lo < L.first := by omega
  have hlo4 : ¬ M + 1 < lo := by omega
  have HVb := Hid.of hvb
  have HT := Hid.of htv3
  have HSpl := Hid.of hspl
  clear hlast hvb htv3 hspl
  go_enter Try.func27, Try.ntmps27
  go_upto_region 3 with (first
    | (go_at_call 21; (with_reducible refine (cl _ (Ext.refl _ _)).mono ?_); intro e w2 hq; obtain ⟨rfl, hx2⟩ := QRet.ext hq; have HX1 := Hid.of hx2; clear hq hx2))
  obtain ⟨-, -, -, d3, d4, -⟩ := HCs.out w2 HX1.out
  have f4 : w2.frozen? ⟨q, 4, none⟩ = false := Blk.f (H0.out.keep HX1.out).blk 4
  have f3 : w2.frozen? ⟨q, 3, none⟩ = false := Blk.f (H0.out.keep HX1.out).blk 3
  clear c3 c4 c5
  have HFin : Hid (∀ W3, W3 = ((w2.setCell ⟨q, 4, none⟩ tv3).setCell ⟨q, 3, none⟩ (.int .i64 lo)).drew → LgB W3 q b mb tv3 (L.drop lo) ∧ Ext [q] w W3) := Hid.of (by
    rintro W3 rfl
    refine ⟨?_, (((HX1.out.mono (by simp)).setCell (.inl (by simp)) _).setCell (.inl (by simp)) _).drew⟩
    exact Blk.keep (Blk.set (Blk.set (H0.out.keep HX1.out).blk 4 _) 3 _) ((Ext.refl [] _).drew) (by simp))
  go_cut [] (fun wx => wx = (w2.setCell ⟨q, 4, none⟩ tv3).drew)
  case first =>
    rcases HSpl.out with ⟨rfl, rfl, rfl⟩ | ⟨g, off, rfl⟩
    · obtain rfl : m = 0 := by omega
      have htv : tv3 = .slice none 0 0 := HT.out
      subst htv
      clear HOwn3 HFin HT HCs H0 cl
      go_region
      all_goals go_wp2
      all_goals go_meet
      all_goals rfl
    · by_cases hmc : m = tc
      · have hKm : K = m := by omega
        have htv : tv3 = .slice (some ⟨g, off, none⟩) 0 0 := by rw [HT.out]; simp only [dropSl]; rw [if_pos hmc]
        subst htv
        subst hmc
        subst hKm
        clear HOwn3 HFin HT HCs H0 cl
        go_region
        all_goals go_wp2
        all_goals go_meet
        all_goals simp
      · have htv : tv3 = .slice (some ⟨g, off + m, none⟩) (K - m) (tc - m) := by rw [HT.out]; simp only [dropSl, Addr.add_lit]; rw [if_neg hmc]
        have hmc2 : tc - m ≠ 0 := by omega
        subst htv
        clear HOwn3 HFin HT HCs H0 cl
        go_region
        all_goals go_wp2
        all_goals go_meet
        all_goals (first | rfl | (exfalso; omega))
  case rest =>
    subst hcut
    go_upto_region 5 with fail
    obtain ⟨W3, hW3⟩ : ∃ W, W = ((w2.setCell ⟨q, 4, none⟩ tv3).setCell ⟨q, 3, none⟩ (.int .i64 lo)).drew := ⟨_, rfl⟩
    obtain ⟨hb3, x3⟩ := HFin.out W3 hW3
    have own3 := HOwn3.out W3 x3
    have hvb := HVb.out
    rw [← hW3]
    have HT3 : Hid (∀ (wr : World), Ext [mb] W3 wr → MapAt wr mb (hurtF (fun x => L.hurt x && decide (lo ≤ x))) → LgM w0 wr q b mb (tv3) D (L.drop lo) n O ∧ Kept O w wr) := Hid.of (by
      intro wr hxr hmr
      have h0 := H0.out
      have hxw : Ext (q :: mb :: vblocks (.slice ta K tc)) w wr := (x3.mono (fun x hx => .inl (by simp at hx; simp [hx]))).trans hxr (fun x hx => .inl (by simp at hx; simp [hx]))
      refine h0.toLgM.turn (L' := L.drop lo) hxw ?_ ?_ hmr hokd ?_
      · exact Blk.keep hb3 hxr (by simpa using h0.ne)
      · exact own3.keep hxr (fun k hk hm => by simp at hm; subst hm; exact h0.nem (hvb _ hk))
      · exact fun z hz => .inl (hvb z hz))
    have hm3 : MapAt W3 mb (hurtF L.hurt) := H0.out.hurt.keep x3 (by simpa using fun e => H0.out.ne e.symm)
    have c53 : W3.cell? ⟨q, 5, none⟩ = some (.map (some mb)) := hb3.cells.2.2.2.2.2
    have HNe : Hid (q ≠ mb) := Hid.of H0.out.ne
    clear hW3 x3 hb3 own3 d3 d4 f4 f3 hvb
    go_wp2_with (first | (at_range; refine wpl_maprange Try.underlying84 hm3 rfl ?_; intro w4 cnt hit hx4 hlt4))
    go_frame
    obtain ⟨r, hr⟩ : ∃ r, r = W3.heap.size := ⟨_, rfl⟩
    rw [← hr] at hit hlt4
    have hrw : W3.heap.size ≤ r := by omega
    rw [← hr]
    have HC5 : Hid (∀ wr, Ext [mb] W3 wr → wr.cell? ⟨q, 5, none⟩ = some (.map (some mb))) := Hid.of (fun wr hx => hx.cell (by simpa using HNe.out) c53)
    clear hr hm3 c53
    go_loopw [] (fun wr => ∃ (h' : Int → Bool) (left : Int → Prop) (c : Nat), MapIt wr mb r (hurtF h') left c ∧ Hid (Sieve L.hurt (fun x => decide (lo ≤ x)) h' left) ∧ Hid (Ext [mb] W3 wr)) (fun wr => itLeft wr mb r)
    case atStart => exact ⟨L.hurt, _, cnt, hit, Sieve.start _ _ _ (fun x hx => by simp [hurtF, hx]), hx4.mono (by simp)⟩
    case round =>
      clear hit hlt4 hx4
      obtain ⟨h', left, c, hit, hS, hX⟩ := hrel
      go_wp2_with (at_next; refine wpl_mapnext hit rfl ?_ ?_)
      · intro hl0
        have hf := hS.out.fin hl0
        rw [hf] at hit
        have HG := Hid.of (HT3.out wr hX.out hit.at)
        clear hit hf
        have HA := Hid.of (⟨HG.out.1, H0.out.fine⟩ : LgAt w0 wr q b mb tv3 D (L.drop lo) n V 0 O)
        have HKG := Hid.of HG.out.2
        clear HG
        go_wp2
        go_ret
        exact ⟨rfl, _, D, HA.out, HKG.out⟩
      · intro x v w1 c' hlx hfx hit1 hltc hx1 hen
        have hX1 : Hid (Ext [mb] W3 w1) := hX.out.trans hx1 (fun z hz => .inr (by simp at hz; omega))
        have hcn := hit.cnt
        have c5' := HC5.out w1 hX1.out
        clear hx1 hX hlx hfx
        by_cases hp : lo ≤ x
        · have HS2 := Hid.of (hS.out.skip (x := x) (decide_eq_true hp))
          have hcn1 := hit1.cnt
          have HM : Hid (itLeft w1 mb r < itLeft wr mb r) := by show _ < _; rw [hcn, hcn1]; exact hltc
          have HI := Hid.of hit1
          clear hit hit1 hltc hcn hcn1 hS
          have hp2 : ¬ x < lo := by omega
          go_wp2
          exact ⟨⟨h', _, c', HI.out, HS2.out, hX1.out⟩, HM.out⟩
        · have HS2 := Hid.of (hS.out.del (x := x) (decide_eq_false hp))
          clear hit hS
          have hp2 : x < lo := by omega
          go_wp2_with (at_delete; refine wpl_itdelN Try.underlying84 Try.underlying3 hit1 x rfl rfl ?_; intro w2 c2 hc2 hit2 hx2)
          have hcn2 := hit2.cnt
          have HM : Hid (itLeft w2 mb r < itLeft wr mb r) := by show _ < _; rw [hcn, hcn2]; omega
          have HI : Hid (MapIt w2 mb r (hurtF (setF h' x false)) (fun z => (left z ∧ z ≠ x) ∧ z ≠ x) c2) := Hid.of (by rw [← hurtF_del]; exact hit2)
          have hX2 : Hid (Ext [mb] W3 w2) := hX1.out.trans hx2 (by simp)
          clear hit1 hit2 hltc hcn hcn2 hx2 hX1
          exact ⟨⟨_, _, c2, HI.out, HS2.out, hX2.out⟩, HM.out⟩
end Go.Proofs.Ytmjgbkepngeckaa
namespace Go.Proofs.Ytmjgbkepngeckaa
open Go.RowKit
set_option linter.unusedVariables false
set_option linter.unusedSimpArgs false

/-- Scrub, up to an entry. -/
def Lg.scr (L : Lg) (V : Int → Sl) (i : Int) : Lg := { L with hurt := fun x => L.hurt x || decide (L.first ≤ x ∧ x < i ∧ ¬ L.good V x) }
theorem Lg.scr_start (L : Lg) (V : Int → Sl) : L.scr V L.first = L := by
  have : (fun x => L.hurt x || decide (L.first ≤ x ∧ x < L.first ∧ ¬ L.good V x)) = L.hurt := by
    funext x
    have : decide (L.first ≤ x ∧ x < L.first ∧ ¬ L.good V x) = false := by rw [decide_eq_false_iff_not]; rintro ⟨h1, h2, _⟩; omega
    rw [this, Bool.or_false]
  unfold Lg.scr
  rw [this]
theorem Lg.scr_step (L : Lg) (V : Int → Sl) {i : Int} (h1 : L.first ≤ i) (h2 : i ≤ L.last) : (L.scr V i).readL V i = L.scr V (i + 1) := by
  have hg : (L.scr V i).good V i ↔ L.good V i := Iff.rfl
  have hn : ¬ (i < (L.scr V i).first ∨ (L.scr V i).last < i) := by
    rintro (h | h)
    · have h' : i < L.first := h; omega
    · have h' : L.last < i := h; omega
  unfold Lg.readL
  rw [if_neg hn]
  by_cases hgi : L.good V i
  · rw [if_pos (hg.2 hgi)]
    unfold Lg.scr
    congr 1
    funext x
    congr 1
    rw [decide_eq_decide]
    constructor
    · rintro ⟨a, b, c⟩; exact ⟨a, by omega, c⟩
    · rintro ⟨a, b, c⟩
      refine ⟨a, ?_, c⟩
      by_cases e : x = i
      · subst e; exact absurd hgi c
      · omega
  · rw [if_neg (fun h => hgi (hg.1 h))]
    unfold Lg.scr
    congr 1
    funext x
    by_cases e : x = i
    · subst e
      show setF _ x true x = _
      rw [setF_same]
      have : decide (L.first ≤ x ∧ x < x + 1 ∧ ¬ L.good V x) = true := by rw [decide_eq_true_iff]; exact ⟨h1, by omega, hgi⟩
      rw [this, Bool.or_true]
    · show setF _ i true x = _
      rw [setF_other _ _ _ _ e]
      show (L.hurt x || decide (L.first ≤ x ∧ x < i ∧ ¬ L.good V x)) = _
      congr 1
      rw [decide_eq_decide]
      constructor
      · rintro ⟨a, b, c⟩; exact ⟨a, by omega, c⟩
      · rintro ⟨a, b, c⟩; exact ⟨a, by omega, c⟩
theorem scrub_nil (w : World) : Calls Try.prog 17 #[.pointer none] w fun e w' => e = .returned (.tuple #[]) ∧ Ext [] w w' := by
  have c1 := fun W => first_nil W
  have c2 := fun W => last_nil W
  go_enter Try.func17, Try.ntmps17
  go_upto_region 1 with (first
    | (go_at_call 29; (with_reducible refine (c1 _).mono ?_); rintro e w1 ⟨rfl, rfl⟩))
  go_loopw [2] (fun u2 wr => u2 = .int .i64 1 ∧ wr = w1) (fun u2 _ => 0)
  case atStart => exact ⟨rfl, rfl⟩
  case round =>
    obtain ⟨rfl, rfl⟩ := hrel
    go_wp2_with (first
      | (go_at_call 21; (with_reducible refine (c2 _).mono ?_); rintro e w2 ⟨rfl, rfl⟩))
    go_end0
    exact ⟨rfl, Ext.refl _ _⟩
set_option maxHeartbeats 3200000 in
theorem scrub_o {w0 w : World} {q b mb : Nat} {tv : Value} {D : Dv} {L : Lg} {n : Int} {V : Int → Sl} {s : Nat} {O : List Nat} (h : LgAt w0 w q b mb tv D L n V s O) :
    Calls Try.prog 17 #[.pointer (some ⟨q, 0, none⟩)] w fun e w' => e = .returned (.tuple #[]) ∧ LgAt w0 w' q b mb tv D (L.scr V (L.last + 1)) n V s O ∧ Kept O w w' := by
  have c1 := first_o w h.blk
  have H0 := Hid.of h
  have g1 := h.ok.first
  have g2 := h.ok.firstb
  have g3 := h.ok.size
  have g4 := h.ok.fit
  have g5 := h.ok.base
  have g6 := h.ok.big
  have g7 := h.ok.len
  have hl : L.last = L.first + L.terms.length - 1 := rfl
  have hM0 : 0 ≤ L.last ∧ L.last ≤ 2000000000 := by omega
  obtain ⟨M, hM⟩ : ∃ M, M = L.last := ⟨_, rfl⟩
  have HM := Hid.of hM
  rw [← hM] at hM0 hl ⊢
  obtain ⟨hM0, hM1⟩ := hM0
  have hM2 : L.first ≤ M + 1 := by omega
  clear h hM hl
  go_enter Try.func17, Try.ntmps17
  go_upto_region 1 with (first
    | (go_at_call 29; (with_reducible refine c1.mono ?_); rintro e w1 ⟨rfl, hw1⟩; rw [hw1]; clear hw1 w1))
  go_loopw [2] (fun u2 wr => ∃ i : Int, u2 = .int .i64 i ∧ L.first ≤ i ∧ i ≤ M + 1 ∧ Hid (LgAt w0 wr q b mb tv D (L.scr V i) n V s O) ∧ Hid (Kept O w wr)) (fun u2 _ => (M + 1 - intOf u2).toNat)
  case atStart => exact ⟨L.first, rfl, by omega, hM2, show LgAt _ _ _ _ _ _ _ _ _ _ _ _ by rw [Lg.scr_start]; exact H0.out, Kept.refl _ _⟩
  case round =>
    obtain ⟨i, rfl, hi1, hi2, hA, hK⟩ := hrel
    have cl := last_o wr hA.out.blk hA.out.ok hA.out.tv_slice
    have e : (L.scr V i).last = M := HM.out.symm
    rw [e] at cl
    clear e
    by_cases hi : i ≤ M
    · have cr := fun w' (hx : Ext [] wr w') => read_o (hA.out.keep hx) i
      rw [Lg.scr_step L V hi1 (by rw [← HM.out]; exact hi)] at cr
      go_wp2_with (first
        | (go_at_call 21; (with_reducible refine cl.mono ?_); intro e w2 hq; obtain ⟨rfl, hx2⟩ := QRet.ext hq; have HX2 := Hid.of hx2; clear hq hx2 cl)
        | (go_at_call 18; (with_reducible refine (cr _ HX2.out).mono ?_); rintro e w3 ⟨rfl, h3, hk3⟩; have H3 := Hid.of h3; have HK3 := Hid.of hk3; clear h3 hk3 cr))
      exact ⟨⟨i + 1, rfl, by omega, by omega, H3, (hK.out.trans (Kept.of HX2.out)).trans HK3.out⟩, by simp [intOf]; omega⟩
    · obtain rfl : i = M + 1 := by omega
      go_wp2_with (first
        | (go_at_call 21; (with_reducible refine cl.mono ?_); intro e w2 hq; obtain ⟨rfl, hx2⟩ := QRet.ext hq; have HX2 := Hid.of hx2; clear hq hx2 cl))
      go_end0
      exact ⟨rfl, hA.out.keep HX2.out, hK.out.trans (Kept.of HX2.out)⟩
/-- delete as a step of a region that draws its order. -/
theorem step_delete {P : Program} {ops : Array Oper} {o : Oper} {a : Act} {w : World} {K : Act → World → Prop} {Q : Exit → Act → World → Prop} {E : Prop} {b : Nat} {f : Int → Option Value} {t k e : TypeId}
    (hg : o.guard = none) (m x : Operand) (hop : o.op = Op.call { callee := Callee.builtin Builtin.delete, args := #[m, x], argTypes := #[t, k] })
    (ht : P.underlying t = some (.map k e)) (hk : P.underlying k = some (.int .i64)) (h : MapAt w b f) (n : Int) (hm : a.eval m = .map (some b)) (hx : a.eval x = .int .i64 n)
    (hK : ∀ w', MapAt w' b (fun x => if x = n then none else f x) → Ext [b] w w' → K (a.put o.dst (.tuple #[])) w') :
    if Region.wanted o (yielded ops a.tmps) = true then Oper.wp P o a w K Q else E := by
  have hw : Region.wanted o (yielded ops a.tmps) = true := by simp [Region.wanted, hg]
  rw [if_pos hw]
  obtain ⟨w', hrun, r1, r2⟩ := h.delete ht hk n o.type
  unfold Oper.wp
  simp [execOp, hop, resolve, invoke, builtin, hm, hx, hrun, Result.andThen]
  exact hK w' r1 r2
def Lg.mend (L : Lg) (x : Ent) : Lg := { L with terms := L.terms.set (x.idx - L.first).toNat x.term, hurt := setF L.hurt x.idx false }
theorem LgOk.mend {L : Lg} {n : Int} (h : LgOk L n) {x : Ent} (hx : x.fit) : LgOk (L.mend x) n :=
  ⟨h.base, h.size, h.fit, h.big, h.first, h.firstb, by show ((L.terms.set _ _).length : Int) ≤ L.size; rw [List.length_set]; exact h.len, fun t ht => by
    rcases List.mem_or_eq_of_mem_set (show t ∈ L.terms.set _ x.term from ht) with h1 | h1
    · exact h.terms t h1
    · rw [h1]; exact hx.2.1, fun i hi => by
    have hi' : setF L.hurt x.idx false i = true := hi
    by_cases e : i = x.idx
    · rw [e, setF_same] at hi'; cases hi'
    · rw [setF_other _ _ _ _ e] at hi'; exact h.hurt i hi'⟩
theorem mend_nil (x : Ent) (w : World) : Calls Try.prog 22 #[.pointer none, x.val] w fun e w' => e = .returned (.int .i64 1) ∧ Ext [] w w' := by
  have ct := fun W => term_nil W x.idx
  obtain ⟨xi, xt, xd⟩ := x
  simp only [Ent.val] at ct ⊢
  go_enter Try.func22, Try.ntmps22
  go_upto_region 2 with (first
    | (go_at_call 33; (with_reducible refine (ct _).mono ?_); intro e w2 hq; obtain ⟨rfl, hx2⟩ := QRet.ext hq; have HX2 := Hid.of (((Ext.refl [] w).alloc (.cells #[.int .i64 xi, .int .i64 xt, str xd] 37)).then0 hx2); clear hq hx2 ct))
  go_quiet (fail)
  go_wp2
  go_ret
  exact ⟨rfl, HX2.out.drewN nq⟩
set_option maxRecDepth 100000 in
set_option maxHeartbeats 12800000 in
theorem mend_o {w0 w : World} {q b mb : Nat} {tv : Value} {D : Dv} {L : Lg} {n : Int} {O : List Nat} (h : LgM w0 w q b mb tv D L n O) (x : Ent) (h1 : L.first ≤ x.idx) (h2 : x.idx ≤ L.last) (h3 : 1 ≤ x.term) (h4 : x.term ≤ 1099511627776) (h5 : x.data.length ≤ 488)
    (ht : L.term x.idx = 0 ∨ L.term x.idx = x.term) (hs : D.since.length ≤ 1000) :
    Calls Try.prog 22 #[.pointer (some ⟨q, 0, none⟩), x.val] w fun e w' => e = .returned (.int .i64 (putP L [x] D).1) ∧ LgM w0 w' q b mb tv (putP L [x] D).2 (if (putP L [x] D).1 = 0 then L.mend x else L) n O ∧ Kept O w w' := by
  obtain ⟨ta, tc, rfl⟩ := h.tv_slice
  have g1 := h.ok.first
  have g2 := h.ok.firstb
  have g3 := h.ok.size
  have g4 := h.ok.fit
  have g5 := h.ok.base
  have g6 := h.ok.big
  have g7 := h.ok.len
  have hlast : L.last = L.first + L.terms.length - 1 := rfl
  have hfit : x.fit := ⟨⟨by omega, by omega⟩, ⟨by omega, by omega⟩, h5⟩
  have hokm := h.ok.mend hfit
  have ct := fun w' (hx : Ext [] w w') => term_o w' (h.keep hx).blk h.ok (h.keep hx).terms x.idx
  have cl := fun w' (hx : Ext [] w w') => last_o w' (h.keep hx).blk h.ok h.tv_slice
  have H0 := Hid.of h
  obtain ⟨P, hP⟩ : ∃ P, P = putP L [x] D := ⟨_, rfl⟩
  have HP := Hid.of hP
  have HW := Hid.of hfit.wf
  rw [← hP]
  obtain ⟨M, hM⟩ : ∃ M, M = L.last := ⟨_, rfl⟩
  rw [← hM] at cl h2 hlast
  obtain ⟨t, ht'⟩ : ∃ t, t = L.term x.idx := ⟨_, rfl⟩
  rw [← ht'] at ct ht
  have HML : Hid (∀ k : Nat, x.idx - L.first = (k : Int) → (L.mend x).terms = L.terms.set k x.term ∧ (L.mend x).hurt = setF L.hurt x.idx false) := Hid.of (fun k hk => ⟨by show L.terms.set _ _ = _; rw [hk]; rfl, rfl⟩)
  obtain ⟨LM, hLM⟩ : ∃ LM, LM = L.mend x := ⟨_, rfl⟩
  have HLB : Hid (LM.base = L.base ∧ LM.size = L.size ∧ LM.first = L.first) := Hid.of (by rw [hLM]; exact ⟨rfl, rfl, rfl⟩)
  rw [← hLM] at HML hokm ⊢
  have HOK := Hid.of hokm
  have hM1 : 0 ≤ M ∧ M ≤ 2000000000 := by omega
  obtain ⟨hM0, hM1⟩ := hM1
  clear hP hM ht' hLM hfit hokm h
  obtain ⟨xi, xt, xd⟩ := x
  simp only [Ent.val] at ct h1 h2 h3 h4 h5 ht HML ⊢
  have hxd : (xd.length : Int) ≤ 488 := by omega
  have b1 : ¬ xi < L.first := by omega
  have b2 : ¬ M < xi := by omega
  have b3 : ¬ xt < 1 := by omega
  have b4 : ¬ 1099511627776 < xt := by omega
  have b5 : ¬ 488 < (xd.length : Int) := by omega
  have b1' : decide (xi < L.first) = false := decide_eq_false b1
  have b2' : decide (M < xi) = false := decide_eq_false b2
  have b3' : decide (xt < 1) = false := decide_eq_false b3
  have b4' : decide (1099511627776 < xt) = false := decide_eq_false b4
  have b5' : decide (488 < (xd.length : Int)) = false := decide_eq_false b5
  have HLs := Hid.of hlast
  clear hlast
  go_enter Try.func22, Try.ntmps22
  obtain ⟨E, hE⟩ : ∃ E, E = w.heap.size := ⟨_, rfl⟩
  obtain ⟨W, hW⟩ : ∃ W, W = w.alloc (.cells #[.int .i64 xi, .int .i64 xt, .string ⟨xd.toArray⟩] 37) := ⟨_, rfl⟩
  have HEW : Hid (Blk W E 37 [.int .i64 xi, .int .i64 xt, str xd]) := Hid.of (by rw [hE, hW]; exact Blk.new w 37 #[.int .i64 xi, .int .i64 xt, str xd])
  have HXW : Hid (Ext [] w W) := Hid.of (by rw [hW]; exact (Ext.refl _ _).alloc _)
  have HN : Hid (w.heap.size ≤ E) := Hid.of (by omega)
  have HM1 : Hid (LgM w0 W q b mb (.slice ta L.terms.length tc) D L n (E :: O)) := Hid.of (H0.out.add HXW.out E HN.out (Blk.lt HEW.out))
  have cp := fun w' (hx : Ext [] W w') (z : Nat) (hz1 : W.heap.size ≤ z) (hz2 : z < w'.heap.size) (hR : Rd w' 3 (.slice (some ⟨z, 0, none⟩) 1 1) 1 ([(⟨xi, xt, xd⟩ : Ent)].flatMap Ent.cells)) =>
    put_o (HM1.out.add hx z hz1 hz2) [⟨xi, xt, xd⟩] (some ⟨z, 0, none⟩) 1 1 hR (by simp [vblocks]) (by simpa using HW.out) (by omega)
  rw [← HP.out] at cp
  go_upto_region 1 with fail
  rw [← hE, ← hW]
  clear hE hW
  have e0 : W.cell? ⟨E, 0, none⟩ = some (.int .i64 xi) := Blk.c HEW.out 0
  go_upto_region 2 with (first
    | (go_at_call 33; (with_reducible refine (ct _ HXW.out).mono ?_); intro e w2 hq; obtain ⟨rfl, hx2⟩ := QRet.ext hq; have HX2 := Hid.of (HXW.out.then0 hx2); have HX2W := Hid.of hx2; have HE2 := Hid.of (Blk.keep HEW.out hx2 (by simp)); clear hq hx2 ct))
  clear e0
  have e0 : w2.cell? ⟨E, 0, none⟩ = some (.int .i64 xi) := Blk.c HE2.out 0
  have e1 : w2.cell? ⟨E, 1, none⟩ = some (.int .i64 xt) := Blk.c HE2.out 1
  have e2 : w2.cell? ⟨E, 2, none⟩ = some (.string ⟨xd.toArray⟩) := Blk.c HE2.out 2
  obtain ⟨-, -, -, d3, -, -⟩ := (H0.out.keep HX2.out).blk.cells
  have cl2 := fun j => cl (w2.drewN j) (HX2.out.drewN j)
  clear cl
  go_quiet ((go_at_call 21; refine Calls.quiet_of (cl2 _)))
  obtain ⟨W3, hW3⟩ : ∃ W, W = w2.drewN nq := ⟨_, rfl⟩
  have x3 : Ext [] w2 W3 := by rw [hW3]; exact (Ext.refl _ _).drewN _
  have HX3 := Hid.of (HX2.out.then0 x3)
  have HX3W := Hid.of (HX2W.out.then0 x3)
  have HE3 := Hid.of (Blk.keep HE2.out x3 (by simp))
  rw [← hW3]
  clear hW3 x3 e0 e1 e2 cl2 d3 b1' b2' b3' b4' b5'
  have e0 : W3.cell? ⟨E, 0, none⟩ = some (.int .i64 xi) := Blk.c HE3.out 0
  have e1 : W3.cell? ⟨E, 1, none⟩ = some (.int .i64 xt) := Blk.c HE3.out 1
  have e2 : W3.cell? ⟨E, 2, none⟩ = some (.string ⟨xd.toArray⟩) := Blk.c HE3.out 2
  go_upto_region 4 with fail
  go_cut [46] (fun v wx => v = .bool false ∧ wx = W3)
  case first =>
    rcases ht with rfl | rfl
    · go_wp2
      go_meet
      exact ⟨rfl, rfl⟩
    · have h30 : (0 : Int) < t := by omega
      go_wp2
      go_meet
      exact ⟨rfl, rfl⟩
  case rest =>
    obtain ⟨rfl, hwc⟩ := hcut
    subst hwc
    have cp3 := cp (wc.alloc (.cells #[.int .i64 xi, .int .i64 xt, .string ⟨xd.toArray⟩] 37)) (HX3W.out.alloc _) wc.heap.size HX3W.out.size (by simp) (Rd.lit wc #[.int .i64 xi, .int .i64 xt, .string ⟨xd.toArray⟩] 37 3 1 rfl (by unfold maxLen; omega))
    clear cp
    go_upto_region 7 with (first
      | (go_at_call 44; (with_reducible refine cp3.mono ?_); rintro e w4 ⟨rfl, h4, hk4⟩; have H4 := Hid.of h4; have HK4 := Hid.of hk4; clear h4 hk4 cp3))
    have HKw : Hid (Kept O w w4) := Hid.of ((Kept.of (HX3.out.alloc _)).trans (HK4.out.sub (fun y hy => by simp [hy])))
    have hE4 := HK4.out.blk (Blk.keep HE3.out ((Ext.refl [] wc).alloc _) (by simp)) (by simp)
    have HE4 := Hid.of hE4
    have HM4 : Hid (LgM w0 w4 q b mb (.slice ta L.terms.length tc) P.2 L n (E :: O)) := Hid.of (H4.out.sub (fun y hy => by simp only [List.mem_cons] at hy ⊢; exact .inr hy))
    clear hE4 H4 HK4 HP HE3 e0 e1 e2
    obtain ⟨P1, P2⟩ := P
    simp only at HM4 ⊢
    by_cases h0 : P1 = 0
    · subst h0
      obtain ⟨k, hk⟩ : ∃ k : Nat, xi - L.first = (k : Int) := ⟨(xi - L.first).toNat, by omega⟩
      have hkl : k < L.terms.length := by have := HLs.out; omega
      obtain ⟨hmt, hmh⟩ := HML.out k hk
      obtain ⟨K, hKK⟩ : ∃ K, K = L.terms.length := ⟨_, rfl⟩
      have HKK := Hid.of hKK
      have hto := HM4.out.terms
      rw [← hKK] at HM4 hto hkl
      obtain ⟨g, off, rfl⟩ : ∃ g off, ta = some ⟨g, off, none⟩ := by
        rcases hto.2 with ⟨h1, h2⟩ | ⟨g', off', cap', cur, fz, h', _⟩
        · omega
        · simp only [Value.slice.injEq] at h'; exact ⟨g', off', h'.1⟩
      have hcg := hto.cell k (by omega)
      have hcg2 : w4.cell? ⟨g, off + k, none⟩ = some (.int .i64 (L.terms[k]'(by rw [← hKK]; exact hkl))) := by rw [hcg]; simp [ints, List.getElem?_eq_getElem (show k < L.terms.length by rw [← hKK]; exact hkl)]
      have hfg := hto.frozen k (by omega)
      have hst := hto.store k (.int .i64 xt) (by omega)
      have HSt := Hid.of hst
      generalize L.terms[k]'(by rw [← hKK]; exact hkl) = y at hcg2
      obtain ⟨-, -, -, d3, d4, d5⟩ := HM4.out.blk.cells
      have e0 : w4.cell? ⟨E, 0, none⟩ = some (.int .i64 xi) := Blk.c HE4.out 0
      have e1 : w4.cell? ⟨E, 1, none⟩ = some (.int .i64 xt) := Blk.c HE4.out 1
      have hK9 : (K : Int) ≤ 4096 := by omega
      clear hcg hst hto hKK
      have hmb : q ≠ g := fun e => HM4.out.neq (by rw [e]; simp [vblocks])
      have hmg : mb ≠ g := fun e => HM4.out.nem (by rw [e]; simp [vblocks])
      have hEg : E ≠ g := fun e => (HM4.out.out E (by simp)).2.2 (by rw [e]; simp [vblocks])
      have hEm : E ≠ mb := (HM4.out.out E (by simp)).2.1
      go_upto_region 9 with fail
      go_region
      obtain ⟨W5, hW5⟩ : ∃ W, W = (w4.setCell ⟨g, off + k, none⟩ (.int .i64 xt)).drew := ⟨_, rfl⟩
      have x5 : Ext [g] w4 W5 := by rw [hW5]; exact ((Ext.refl [g] w4).setCell (.inl (by simp)) _).drew
      have ho5 : Own W5 3 1 (.slice (some ⟨g, off, none⟩) K tc) K (ints LM.terms) := by
        rw [hW5, hmt]
        have e : ints (L.terms.set k xt) = (ints L.terms).set k (.int .i64 xt) := List.map_set
        rw [e]
        exact HSt.out.keep ((Ext.refl [] _).drew) (by simp)
      have hb5 : LgB W5 q b mb (.slice (some ⟨g, off, none⟩) K tc) LM := by
        have h1 := Blk.keep HM4.out.blk x5 (by simpa using hmb)
        unfold LgB at h1 ⊢
        rw [HLB.out.1, HLB.out.2.1, HLB.out.2.2]
        exact h1
      have hm5 : MapAt W5 mb (hurtF L.hurt) := HM4.out.hurt.keep x5 (by simpa using hmg)
      have d55 : W5.cell? ⟨q, 5, none⟩ = some (.map (some mb)) := hb5.cells.2.2.2.2.2
      have e05 : W5.cell? ⟨E, 0, none⟩ = some (.int .i64 xi) := x5.cell (by simpa using hEg) e0
      have HB5 := Hid.of hb5
      have HO5 := Hid.of ho5
      have HX5 := Hid.of x5
      have HMm := Hid.of hm5
      have HMh := Hid.of hmh
      rw [← hW5]
      clear hW5 x5 ho5 hb5 hm5 d3 d4 d5 e0 e1 hcg2 hfg HSt hmh
      go_wp2_with fail
      go_region_law (first
        | (refine step_delete rfl _ _ rfl Try.underlying84 Try.underlying3 (HMm.out.keep ((Ext.refl [] W5).drew) (by simp)) xi rfl rfl ?_; intro w6 hm6 hx6))
      all_goals (
        have hx6' : Ext [mb] W5 w6 := Ext.trans (F := [mb]) ((Ext.refl _ W5).drew) hx6 (by simp)
        have hg : LgM w0 w6 q b mb (.slice (some ⟨g, off, none⟩) K tc) P2 LM n (E :: O) ∧ Kept (E :: O) w4 w6 := (by
          have e9 : LM.terms.length = K := by rw [hmt, List.length_set]; exact HKK.out.symm
          refine HM4.out.turn (L' := LM) (((HX5.out.mono (by simp [vblocks])).trans hx6' (by simp))) (Blk.keep HB5.out hx6' (by simpa using HM4.out.ne)) ?_ ?_ HOK.out (fun z hz => .inl hz)
          · rw [e9]
            exact HO5.out.keep hx6' (by simpa [vblocks] using fun e => hmg e.symm)
          · rw [HMh.out, ← hurtF_del]
            exact hm6)
        rw [HKK.out] at hg
        have HG := Hid.of hg
        clear hg hm6 hx6 hx6'
        go_wp2
        go_ret
        exact ⟨rfl, HG.out.1.sub (fun y hy => by simp [hy]), HKw.out.trans (HG.out.2.sub (fun y hy => by simp [hy]))⟩)
    · go_wp2
      go_ret
      exact ⟨rfl, HM4.out.sub (fun y hy => by simp [hy]), HKw.out⟩
end Go.Proofs.Ytmjgbkepngeckaa
