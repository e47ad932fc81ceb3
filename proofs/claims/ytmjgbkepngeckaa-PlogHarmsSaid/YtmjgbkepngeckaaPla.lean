/- Package plog: Append. -/
import Derived.Test.YtmjgbkepngeckaaPlo
namespace Go.Proofs.Ytmjgbkepngeckaa
open Go.RowKit
set_option linter.unusedVariables false
set_option linter.unusedSimpArgs false

def Ent.bad (e : Ent) : Prop := e.term < 1 ∨ 1099511627776 < e.term ∨ 488 < e.data.length
instance (e : Ent) : Decidable e.bad := inferInstanceAs (Decidable (_ ∨ _ ∨ _))
def chkE : Int → List Ent → Int
  | _, [] => 0
  | i, e :: l => if e.idx ≠ i then 8 else if e.bad then 1 else chkE (i + 1) l
def Lg.appE (L : Lg) (es : List Ent) : Int := if L.size - (L.terms.length : Int) < (es.length : Int) then 4 else chkE (L.last + 1) es
def Lg.grow (L : Lg) (es : List Ent) : Lg := { L with terms := L.terms ++ es.map (·.term) }
def Lg.appL (L : Lg) (es : List Ent) : Lg := if L.appE es = 0 then L.grow es else L
def putV2 (L : Lg) (es : List Ent) (V : Int → Sl) : Int → Sl := putsV (es.map (recW L 3)) (putsV (es.map (recW L 2)) V)
def Lg.appV (L : Lg) (es : List Ent) (V : Int → Sl) : Int → Sl := if L.appE es = 0 then putV2 L es V else V
theorem chkE_step {i : Int} {es : List Ent} {k : Nat} (hk : k < es.length) (h : chkE i (es.take k) = 0) :
    (es[k].idx ≠ i + k → chkE i es = 8) ∧ (es[k].idx = i + k → es[k].bad → chkE i es = 1) ∧ (es[k].idx = i + k → ¬ es[k].bad → chkE i (es.take (k + 1)) = 0) := by
  induction es generalizing i k with
  | nil => cases hk
  | cons e l ih =>
    cases k with
    | zero =>
      simp only [List.getElem_cons_zero, Int.natCast_zero, Int.add_zero, List.take_succ_cons, List.take_zero, chkE]
      exact ⟨fun h => if_pos h, fun h h2 => by rw [if_neg (fun g => g h), if_pos h2], fun h h2 => by rw [if_neg (fun g => g h), if_neg h2]⟩
    | succ k =>
      simp only [List.take_succ_cons, chkE] at h
      by_cases h1 : e.idx = i
      · by_cases h2 : e.bad
        · rw [if_neg (fun g => g h1), if_pos h2] at h; cases h
        · rw [if_neg (fun g => g h1), if_neg h2] at h
          obtain ⟨g1, g2, g3⟩ := ih (k := k) (by simpa using hk) h
          simp only [List.getElem_cons_succ, List.take_succ_cons, chkE]
          have e1 : i + ((k + 1 : Nat) : Int) = i + 1 + (k : Int) := by omega
          rw [if_neg (fun g => g h1), if_neg h2, if_neg (fun g => g h1), if_neg h2, e1]
          exact ⟨g1, g2, g3⟩
      · rw [if_pos h1] at h; cases h
theorem chkE_all {i : Int} : ∀ {es : List Ent}, chkE i es = 0 → ∀ k (hk : k < es.length), es[k].idx = i + k ∧ ¬ es[k].bad := by
  intro es
  induction es generalizing i with
  | nil => intro _ k hk; cases hk
  | cons e l ih =>
    intro h k hk
    simp only [chkE] at h
    by_cases h1 : e.idx = i
    · by_cases h2 : e.bad
      · rw [if_neg (fun g => g h1), if_pos h2] at h; cases h
      · rw [if_neg (fun g => g h1), if_neg h2] at h
        cases k with
        | zero => simp only [List.getElem_cons_zero]; exact ⟨by simpa using h1, h2⟩
        | succ k =>
          obtain ⟨g1, g2⟩ := ih h k (by simpa using hk)
          simp only [List.getElem_cons_succ]
          exact ⟨by rw [g1]; omega, g2⟩
    · rw [if_pos h1] at h; cases h
/-- An entry that may be put. -/
def Ent.fit (e : Ent) : Prop := (0 ≤ e.idx ∧ e.idx ≤ 281474976710655) ∧ (0 ≤ e.term ∧ e.term ≤ 281474976710655) ∧ e.data.length ≤ 488
theorem Ent.fit.wf {e : Ent} (h : e.fit) : e.wf := ⟨⟨h.1.1, by have := h.1.2; omega⟩, ⟨by have := h.2.1.1; omega, by have := h.2.1.2; omega⟩, by have := h.2.2; unfold maxLen; omega⟩
theorem recW_ok {L : Lg} {n : Int} (hok : LgOk L n) {K : Int} {e : Ent} (h : e.fit) : 0 ≤ (recW L K e).1 ∧ (recW L K e).1 < n ∧ putE (recW L K e).2 = 0 := by
  obtain ⟨a1, a2, b1, b2, _⟩ := hok.ab e.idx
  unfold recW
  split
  · exact ⟨a1, a2, mark_put (by omega) h.1 h.2.1 h.2.2⟩
  · exact ⟨b1, b2, mark_put (by omega) h.1 h.2.1 (by simp)⟩
theorem Fine.put {D : Dv} {L : Lg} {n : Int} {V : Int → Sl} {s : Nat} {es : List Ent} (h : Fine D n V s) (hok : LgOk L n) (hes : ∀ e ∈ es, e.fit) : (putP L es D).1 = 0 ∧ Fine (putP L es D).2 n (putV2 L es V) 0 := by
  have h1 := h.wrf (l := es.map (recW L 2)) (fun c hc => by obtain ⟨e, he, rfl⟩ := List.mem_map.1 hc; exact recW_ok hok (hes e he))
  have h2 := h1.2.wrf (l := es.map (recW L 3)) (fun c hc => by obtain ⟨e, he, rfl⟩ := List.mem_map.1 hc; exact recW_ok hok (hes e he))
  unfold putP
  rw [if_pos (show (put1 L es D).1 = 0 from h1.1)]
  exact h2
theorem LgOk.grow {L : Lg} {n : Int} (h : LgOk L n) {es : List Ent} (hl : (L.terms.length : Int) + es.length ≤ L.size) (ht : ∀ e ∈ es, 0 ≤ e.term ∧ e.term ≤ 281474976710655) : LgOk (L.grow es) n :=
  ⟨h.base, h.size, h.fit, h.big, h.first, h.firstb, by show ((L.terms ++ es.map (·.term)).length : Int) ≤ L.size; rw [List.length_append, List.length_map]; omega, fun t hm => by
    rcases List.mem_append.1 (show t ∈ L.terms ++ es.map (·.term) from hm) with h1 | h1
    · exact h.terms t h1
    · obtain ⟨e, he, rfl⟩ := List.mem_map.1 h1; exact ht e he, h.hurt⟩
theorem append_nil (w : World) : Calls Try.prog 26 #[.pointer none, .slice none 0 0] w fun e w' => e = .returned (.int .i64 1) ∧ Ext [] w w' := by
  go_enter Try.func26, Try.ntmps26
  go_wp2
  go_ret
  exact ⟨rfl, Ext.refl _ _⟩
theorem LgM.grown {w0 wr W4 w5 : World} {q b mb : Nat} {tv : Value} {D : Dv} {L : Lg} {n : Int} {O : List Nat} {a5 : Option Addr} {c5 : Nat} {t : Int} (hM : LgM w0 wr q b mb tv D L n O) (hx4 : Ext [] wr W4)
    (ho5 : Own w5 3 1 (.slice a5 (L.terms.length + 1) c5) (L.terms.length + 1) (ints L.terms ++ [.int .i64 t])) (hx5 : Ext (vblocks tv) W4 w5)
    (hv5 : ∀ z ∈ vblocks (.slice a5 (L.terms.length + 1) c5), z ∈ vblocks tv ∨ W4.heap.size ≤ z) (hok : LgOk { L with terms := L.terms ++ [t] } n) :
    LgM w0 (w5.setCell ⟨q, 4, none⟩ (.slice a5 (L.terms.length + 1) c5)) q b mb (.slice a5 (L.terms.length + 1) c5) D { L with terms := L.terms ++ [t] } n O ∧ Kept O wr (w5.setCell ⟨q, 4, none⟩ (.slice a5 (L.terms.length + 1) c5)) := by
  have hsz := hx4.size
  have hql := Blk.lt hM.blk
  have x6 : Ext (q :: vblocks tv) wr (w5.setCell ⟨q, 4, none⟩ (.slice a5 (L.terms.length + 1) c5)) := ((hx4.mono (by simp)).trans hx5 (fun x hx => .inl (by simp [hx]))).setCell (.inl (by simp)) _
  have el : ({ L with terms := L.terms ++ [t] } : Lg).terms.length = L.terms.length + 1 := by simp
  have hb5 : LgB w5 q b mb tv L := Blk.keep (Blk.keep hM.blk hx4 (by simp)) hx5 hM.neq
  refine hM.turn (L' := { L with terms := L.terms ++ [t] }) (x6.mono (fun x hx => .inl (by simp only [List.mem_cons] at hx ⊢; rcases hx with h | h; exact .inl h; exact .inr (.inr h)))) ?_ ?_ ?_ hok (fun z hz => (hv5 z hz).imp id (fun h => by omega))
  · exact Blk.set hb5 4 _
  · rw [el]
    have e2 : ints ({ L with terms := L.terms ++ [t] } : Lg).terms = ints L.terms ++ [.int .i64 t] := by simp [ints]
    rw [e2]
    refine ho5.keep ((Ext.refl [q] w5).setCell (.inl (by simp)) _) (fun k hk hm => ?_)
    simp at hm
    subst hm
    rcases hv5 _ hk with h | h
    · exact hM.neq h
    · omega
  · exact hM.hurt.keep x6 (by
      simp only [List.mem_cons, not_or]
      exact ⟨fun e => hM.ne e.symm, hM.nem⟩)
def Ent.i64 (e : Ent) : Prop := (-9223372036854775808 ≤ e.idx ∧ e.idx ≤ 9223372036854775807) ∧ (-9223372036854775808 ≤ e.term ∧ e.term ≤ 9223372036854775807) ∧ e.data.length ≤ maxLen
/-- A log behind a call: its block and its device's are the same. -/
def LgSome (w0 w w' : World) (q b mb : Nat) (L : Lg) (n : Int) (V : Int → Sl) (O : List Nat) : Prop := ∃ tv D, LgAt w0 w' q b mb tv D L n V 0 O ∧ Kept O w w'
set_option maxRecDepth 100000 in
set_option maxHeartbeats 12800000 in
theorem append_o {w0 w : World} {q b mb : Nat} {tv : Value} {D : Dv} {L : Lg} {n : Int} {V : Int → Sl} {O : List Nat} (h : LgAt w0 w q b mb tv D L n V 0 O) (es : List Ent) (a : Option Addr) (len cap : Nat)
    (hR : Rd w 3 (.slice a len cap) len (es.flatMap Ent.cells)) (hO : ∀ z ∈ vblocks (.slice a len cap), z ∈ O) (hes : ∀ e ∈ es, e.i64) :
    Calls Try.prog 26 #[.pointer (some ⟨q, 0, none⟩), .slice a len cap] w fun e w' => e = .returned (.int .i64 (L.appE es)) ∧ LgSome w0 w w' q b mb (L.appL es) n (L.appV es V) O := by
  have hl : es.length = len := by have := hR.len.2.2.2; rw [flatMap_len _ 3 ecells_len] at this; omega
  have g1 := h.ok.first
  have g2 := h.ok.firstb
  have g3 := h.ok.size
  have g4 := h.ok.fit
  have g5 := h.ok.base
  have g6 := h.ok.big
  have g7 := h.ok.len
  have hlm : len ≤ 9223372036854775807 := by have := hR.len; unfold maxLen at this; omega
  have HR := Hid.of hR
  have HO := Hid.of hO
  have HE := Hid.of hes
  have H0 := Hid.of h
  have HL := Hid.of hl
  have HA1 : Hid (L.appE es = if L.size - (L.terms.length : Int) < (es.length : Int) then 4 else chkE (L.last + 1) es) := Hid.of rfl
  have HA2 : Hid (L.appE es = 0 → L.appL es = L.grow es ∧ L.appV es V = putV2 L es V) := Hid.of (fun h => ⟨if_pos h, if_pos h⟩)
  have HA3 : Hid (L.appE es ≠ 0 → L.appL es = L ∧ L.appV es V = V) := Hid.of (fun h => ⟨if_neg h, if_neg h⟩)
  obtain ⟨A1, hA1⟩ : ∃ x, x = L.appE es := ⟨_, rfl⟩
  obtain ⟨A2, hA2⟩ : ∃ x, x = L.appL es := ⟨_, rfl⟩
  obtain ⟨A3, hA3⟩ : ∃ x, x = L.appV es V := ⟨_, rfl⟩
  rw [← hA1] at HA1 HA2 HA3
  rw [← hA2, ← hA3] at HA2 HA3
  rw [← hA1, ← hA2, ← hA3]
  rw [hl] at HA1
  have cr := room_o w h.blk h.ok h.tv_slice
  clear hA1 hA2 hA3 h hes hR hO hl
  go_enter Try.func26, Try.ntmps26
  by_cases hroom : L.size - (L.terms.length : Int) < (len : Int)
  · have he := HA1.out
    rw [if_pos hroom] at he
    have HE1 := Hid.of he
    have HE2 := Hid.of (HA3.out (by rw [he]; decide))
    clear HA1 HA2 HA3 he
    go_wp2_with (first
      | (go_at_call 32; (with_reducible refine cr.mono ?_); intro e w1 hq; obtain ⟨rfl, hx1⟩ := QRet.ext hq; have HX1 := Hid.of hx1; clear hq hx1 cr))
    go_ret
    rw [HE1.out, HE2.out.1, HE2.out.2]
    exact ⟨rfl, tv, D, H0.out.keep HX1.out, Kept.of HX1.out⟩
  · have he := HA1.out
    rw [if_neg hroom] at he
    have HE1 := Hid.of he
    have hlen2 : len ≤ 4096 := by omega
    clear HA1 he
    go_upto_region 6 with (first
      | (go_at_call 32; (with_reducible refine cr.mono ?_); intro e w1 hq; obtain ⟨rfl, hx1⟩ := QRet.ext hq; have HX1 := Hid.of hx1; clear hq hx1 cr))
    go_loopw [21] (fun u21 wr => ∃ (k : Nat), u21 = .int .i64 (k : Int) ∧ k ≤ len ∧ Hid (chkE (L.last + 1) (es.take k) = 0) ∧ Hid (Ext [] w wr)) (fun u21 _ => len - (intOf u21).toNat)
    case atStart => exact ⟨0, rfl, by omega, rfl, HX1⟩
    case round =>
      obtain ⟨k, rfl, hk, hC, hX⟩ := hrel
      have hRr := HR.out.keep hX.out (by simp)
      by_cases hkl : k < len
      · obtain ⟨g, off, rfl, hgw, hc⟩ := hRr.view (by omega)
        have hke : k < es.length := by have := HL.out; omega
        have c0 : wr.cell? ⟨g, off + k * 3, none⟩ = some (.int .i64 es[k].idx) := hc (k * 3 + 0) _ (by rw [flatMap_get _ 3 ecells_len _ k 0 hke (by omega)]; rfl)
        have c1 : wr.cell? ⟨g, off + (k * 3 + 1), none⟩ = some (.int .i64 es[k].term) := hc (k * 3 + 1) _ (by rw [flatMap_get _ 3 ecells_len _ k 1 hke (by omega)]; rfl)
        have c2 : wr.cell? ⟨g, off + (k * 3 + 2), none⟩ = some (str es[k].data) := hc (k * 3 + 2) _ (by rw [flatMap_get _ 3 ecells_len _ k 2 hke (by omega)]; rfl)
        rw [← Nat.add_assoc] at c1 c2
        have hew := HE.out es[k] (List.getElem_mem _)
        have hst := chkE_step hke hC.out
        have cl := fun j => last_o ((wr.alloc (.cells #[.int .i64 es[k].idx, .int .i64 es[k].term, .string ⟨es[k].data.toArray⟩] 37)).drewN j) (H0.out.keep ((hX.out.alloc _).drewN j)).blk H0.out.ok H0.out.tv_slice
        have hlast : L.last + 1 = L.first + L.terms.length := by unfold Lg.last; omega
        obtain ⟨M, hM⟩ : ∃ x, x = L.last := ⟨_, rfl⟩
        rw [← hM] at cl hst hlast
        have HC : Hid (∀ k, chkE (L.last + 1) (es.take k) = 0 ↔ chkE (M + 1) (es.take k) = 0) := Hid.of (fun k => by rw [hM])
        have HC2 : Hid (chkE (L.last + 1) es = chkE (M + 1) es) := Hid.of (by rw [hM])
        have hMb : 0 ≤ M ∧ M ≤ 2000000000 := by omega
        obtain ⟨hM0, hM1⟩ := hMb
        obtain ⟨e, he⟩ : ∃ e, e = es[k] := ⟨_, rfl⟩
        rw [← he] at c0 c1 c2 hew cl hst
        obtain ⟨xi, xt, xd⟩ := e
        simp only at c0 c1 c2 cl hst
        obtain ⟨⟨w1a, w1b⟩, ⟨w2a, w2b⟩, w3⟩ := hew
        simp only at w1a w1b w2a w2b w3
        have w4 : xd.length ≤ 9223372036854775807 := by unfold maxLen at w3; omega
        have HSt := Hid.of hst
        clear hM he hc hst hlast w3
        go_upto_region 8 with fail
        obtain ⟨E, hE⟩ : ∃ E, E = wr.heap.size := ⟨_, rfl⟩
        obtain ⟨W, hW⟩ : ∃ W, W = wr.alloc (.cells #[.int .i64 xi, .int .i64 xt, .string ⟨xd.toArray⟩] 37) := ⟨_, rfl⟩
        have HEW : Hid (Blk W E 37 [.int .i64 xi, .int .i64 xt, str xd]) := Hid.of (by rw [hE, hW]; exact Blk.new wr 37 #[.int .i64 xi, .int .i64 xt, str xd])
        have HXW : Hid (Ext [] w W) := Hid.of (by rw [hW]; exact hX.out.alloc _)
        rw [← hE, ← hW]
        rw [← hW] at cl
        clear hE hW c0 c1 c2
        have c0 : W.cell? ⟨E, 0, none⟩ = some (.int .i64 xi) := Blk.c HEW.out 0
        have c1 : W.cell? ⟨E, 1, none⟩ = some (.int .i64 xt) := Blk.c HEW.out 1
        have c2 : W.cell? ⟨E, 2, none⟩ = some (.string ⟨xd.toArray⟩) := Blk.c HEW.out 2
        have k1 : (k : Int) ≤ 4096 := by omega
        by_cases hi : xi = M + 1 + (k : Int)
        · subst hi
          have HB := Hid.of (fun hb => HSt.out.2.1 rfl hb)
          have HG := Hid.of (fun hb => HSt.out.2.2 rfl hb)
          clear HSt
          go_wp2_with fail
          go_quiet ((go_at_call 21; refine Calls.quiet_of (cl _)))
          by_cases b1 : xt < 1
          · go_wp2
            go_ret
            have he : A1 = 1 := by rw [HE1.out, HC2.out]; exact HB.out (.inl b1)
            have hn := HA3.out (by rw [he]; decide)
            rw [he, hn.1, hn.2]
            exact ⟨rfl, tv, D, H0.out.keep (HXW.out.drewN nq), Kept.of (HXW.out.drewN nq)⟩
          · by_cases b2 : 1099511627776 < xt
            · go_wp2
              go_ret
              have he : A1 = 1 := by rw [HE1.out, HC2.out]; exact HB.out (.inr (.inl b2))
              have hn := HA3.out (by rw [he]; decide)
              rw [he, hn.1, hn.2]
              exact ⟨rfl, tv, D, H0.out.keep (HXW.out.drewN nq), Kept.of (HXW.out.drewN nq)⟩
            · by_cases b3 : 488 < xd.length
              · have b3' : (488 : Int) < (xd.length : Int) := by omega
                go_wp2
                go_ret
                have he : A1 = 1 := by rw [HE1.out, HC2.out]; exact HB.out (.inr (.inr b3))
                have hn := HA3.out (by rw [he]; decide)
                rw [he, hn.1, hn.2]
                exact ⟨rfl, tv, D, H0.out.keep (HXW.out.drewN nq), Kept.of (HXW.out.drewN nq)⟩
              · have b3' : ¬ (488 : Int) < (xd.length : Int) := by omega
                have HC3 := Hid.of ((HC.out (k + 1)).2 (HG.out (fun hb => by rcases hb with h | h | h; exact b1 h; exact b2 h; exact b3 h)))
                clear HC cl HB
                go_wp2
                go_roundw
                case rel => exact ⟨k + 1, by congr 1, by omega, HC3, HXW.out.drewN nq⟩
                case measure => simp [intOf]; omega
        · have hib : (xi == M + 1 + (k : Int)) = false := by simp [hi]
          go_wp2_with fail
          go_quiet ((go_at_call 21; refine Calls.quiet_of (cl _)))
          go_wp2
          go_ret
          have he : A1 = 8 := by rw [HE1.out, HC2.out]; exact HSt.out.1 hi
          have hn := HA3.out (by rw [he]; decide)
          rw [he, hn.1, hn.2]
          exact ⟨rfl, tv, D, H0.out.keep (HXW.out.drewN nq), Kept.of (HXW.out.drewN nq)⟩
      · obtain rfl : k = len := by omega
        have htk : es.take k = es := List.take_of_length_le (by have := HL.out; omega)
        have hc0 : chkE (L.last + 1) es = 0 := by have := hC.out; rwa [htk] at this
        have hA0 : A1 = 0 := by rw [HE1.out]; exact hc0
        subst hA0
        have HG := Hid.of (HA2.out rfl)
        have hfit : ∀ e ∈ es, e.fit := by
          intro e he
          obtain ⟨j, hj, rfl⟩ := List.getElem_of_mem he
          obtain ⟨f1, f2⟩ := chkE_all hc0 j hj
          have f3 := HL.out
          have f4 : L.last + 1 = L.first + L.terms.length := by unfold Lg.last; omega
          unfold Ent.bad at f2
          refine ⟨⟨by rw [f1]; omega, by rw [f1]; omega⟩, ⟨by omega, by omega⟩, by omega⟩
        have HFit := Hid.of hfit
        clear HA2 HA3 HE1 hc0 hC htk
        by_cases h0 : k = 0
        · subst h0
          have he0 : es = [] := List.eq_nil_of_length_eq_zero HL.out
          have HE0 : Hid (A2 = L ∧ A3 = V) := Hid.of (by
            rw [HG.out.1, HG.out.2, he0]
            exact ⟨by simp [Lg.grow], rfl⟩)
          clear he0 HG
          go_wp2
          go_ret
          rw [HE0.out.1, HE0.out.2]
          exact ⟨rfl, tv, D, H0.out.keep hX.out, Kept.of hX.out⟩
        · have cp := put_o (H0.out.keep hX.out).toLgM es a k cap hRr HO.out (fun e he => (hfit e he).wf) (by have := H0.out.fine.since; omega)
          have hp := H0.out.fine.put H0.out.ok hfit
          rw [hp.1] at cp
          have HP := Hid.of hp.2
          obtain ⟨D', hD'⟩ : ∃ D', D' = (putP L es D).2 := ⟨_, rfl⟩
          rw [← hD'] at cp HP
          have h0b : ((k : Int) == 0) = false := by simp [h0]
          have h0c : ¬ (k : Int) = 0 := by omega
          clear hp hD' hfit
          go_upto_region 19 with (first
            | (go_at_call 44; (with_reducible refine cp.mono ?_); rintro e w2 ⟨rfl, h2, hk2⟩; have H2 := Hid.of h2; have HK2 := Hid.of ((Kept.of hX.out).trans hk2); clear h2 hk2 cp))
          go_loopw [60] (fun u60 wr2 => ∃ (j : Nat) (tv2 : Value), u60 = .int .i64 (j : Int) ∧ j ≤ k ∧ Hid (LgM w0 wr2 q b mb tv2 D' (L.grow (es.take j)) n O) ∧ Hid (Kept O w wr2)) (fun u60 _ => k - (intOf u60).toNat)
          case atStart => exact ⟨0, tv, rfl, by omega, show LgM _ _ _ _ _ _ _ _ _ _ by rw [show L.grow (es.take 0) = L from by simp [Lg.grow]]; exact H2.out, HK2⟩
          case round =>
            obtain ⟨j, tv2, rfl, hj, hM, hK⟩ := hrel
            by_cases hjk : j < k
            · have hRj := hK.out.rd HR.out HO.out
              obtain ⟨g, off, rfl, hgw, hc⟩ := hRj.view (by omega)
              have hje : j < es.length := by have := HL.out; omega
              have c0 : wr.cell? ⟨g, off + j * 3, none⟩ = some (.int .i64 es[j].idx) := hc (j * 3 + 0) _ (by rw [flatMap_get _ 3 ecells_len _ j 0 hje (by omega)]; rfl)
              have c1 : wr.cell? ⟨g, off + (j * 3 + 1), none⟩ = some (.int .i64 es[j].term) := hc (j * 3 + 1) _ (by rw [flatMap_get _ 3 ecells_len _ j 1 hje (by omega)]; rfl)
              have c2 : wr.cell? ⟨g, off + (j * 3 + 2), none⟩ = some (str es[j].data) := hc (j * 3 + 2) _ (by rw [flatMap_get _ 3 ecells_len _ j 2 hje (by omega)]; rfl)
              rw [← Nat.add_assoc] at c1 c2
              have hft := HFit.out es[j] (List.getElem_mem _)
              obtain ⟨LK, hLK⟩ : ∃ x, x = L.grow (es.take j) := ⟨_, rfl⟩
              have hnx : L.grow (es.take (j + 1)) = { LK with terms := LK.terms ++ [es[j].term] } := by
                rw [hLK, List.take_add_one, List.getElem?_eq_getElem hje]
                show ({ L with terms := L.terms ++ (es.take j ++ [es[j]]).map (·.term) } : Lg) = { L with terms := (L.terms ++ (es.take j).map (·.term)) ++ [es[j].term] }
                rw [List.map_append, List.append_assoc]
                rfl
              have hlk : (LK.terms.length : Int) < LK.size := by
                rw [hLK]
                show ((L.terms ++ (es.take j).map (·.term)).length : Int) < L.size
                rw [List.length_append, List.length_map, List.length_take]
                omega
              have hokn : LgOk { LK with terms := LK.terms ++ [es[j].term] } n := by
                have := hM.out.ok
                rw [← hLK] at this
                exact this.push hft.2.1 hlk false |> fun h => ⟨h.base, h.size, h.fit, h.big, h.first, h.firstb, h.len, h.terms, this.hurt⟩
              rw [← hLK] at hM
              have HN := Hid.of hnx
              have HOk := Hid.of hokn
              obtain ⟨ta, tc, htv⟩ := hM.out.tv_slice
              obtain ⟨K, hKK⟩ : ∃ K, K = LK.terms.length := ⟨_, rfl⟩
              have hKb : K ≤ 4096 := by have h1 := hM.out.ok.len; have h2 := hM.out.ok.fit; have h3 := hM.out.ok.big; have h4 := hM.out.ok.base; omega
              have HKK := Hid.of hKK
              rw [← hKK] at htv
              subst htv
              obtain ⟨e, he⟩ : ∃ e, e = es[j] := ⟨_, rfl⟩
              rw [← he] at c0 c1 c2 hft HN HOk
              obtain ⟨xi, xt, xd⟩ := e
              simp only at c0 c1 c2 HN HOk
              clear hLK hnx hokn he hc hft hlk hKK
              have hjk2 : (j : Int) < (k : Int) := by omega
              go_upto_region 21 with fail
              obtain ⟨E, hE⟩ : ∃ E, E = wr.heap.size := ⟨_, rfl⟩
              obtain ⟨W4, hW⟩ : ∃ W, W = wr.alloc (.cells #[.int .i64 xi, .int .i64 xt, .string ⟨xd.toArray⟩] 37) := ⟨_, rfl⟩
              have HEW : Hid (Blk W4 E 37 [.int .i64 xi, .int .i64 xt, str xd]) := Hid.of (by rw [hE, hW]; exact Blk.new wr 37 #[.int .i64 xi, .int .i64 xt, str xd])
              have HXW : Hid (Ext [] wr W4) := Hid.of (by rw [hW]; exact (Ext.refl _ _).alloc _)
              rw [← hE, ← hW]
              clear hE hW c0 c1 c2
              have c1 : W4.cell? ⟨E, 1, none⟩ = some (.int .i64 xt) := Blk.c HEW.out 1
              have HHb : Hid (LgB W4 q b mb (.slice ta K tc) LK) := Hid.of (Blk.keep hM.out.blk HXW.out (by simp))
              have c4 : W4.cell? ⟨q, 4, none⟩ = some (.slice ta K tc) := HHb.out.cells.2.2.2.2.1
              have c4a : (W4.alloc (.cells #[.int .i64 xt] 3)).cell? ⟨q, 4, none⟩ = some (.slice ta K tc) := ((Ext.refl [] W4).alloc _).cell (by simp) c4
              have hown : Own W4 3 1 (.slice ta K tc) K (ints LK.terms) := by have := hM.out.terms.keep HXW.out (by simp); rwa [← HKK.out] at this
              have HHq : Hid (∀ x ∈ vblocks (.slice ta K tc), x ≠ q) := Hid.of (fun x hx e => hM.out.neq (e ▸ hx))
              go_region_law (first
          | (refine step_append rfl _ _ _ rfl 3 (.int .i64 0) 1 8 el_ints (Value.slice ta K tc) K (ints LK.terms) rfl (hown.keep (((Ext.refl [] W4).drew).alloc _) (by simp)) (.slice (some ⟨W4.heap.size, 0, none⟩) 1 1) 1 [.int .i64 xt] rfl ?_ (icells_one .i64 [xt]) (by omega) (by unfold maxLen; omega) ?_; (exact Rd.ints1 (w := W4.drew) xt rfl); intro v' w5 ho5 hx5 hv5; obtain ⟨a5, c5, rfl⟩ := Rd.isSlice (Own.rd ho5); have hx5 : Ext (vblocks (Value.slice ta K tc)) W4 w5 := (((Ext.refl _ W4).drew).alloc _).trans hx5 (fun x hx => .inl hx); have hb5 := Blk.keep HHb.out hx5 (fun hh => HHq.out _ hh rfl); have c5' : w5.cell? ⟨q, 4, none⟩ = some (Value.slice ta K tc) := Blk.c hb5 4; have f5' := Blk.f hb5 4; have HO5 := Hid.of ho5; have HX5 := Hid.of hx5; have HV5 : Hid (∀ z ∈ vblocks (.slice a5 (K + 1) c5), z ∈ vblocks (Value.slice ta K tc) ∨ W4.heap.size ≤ z) := Hid.of (fun z hz => by rcases hv5 with h | h; exact .inl (h ▸ hz); exact .inr (by rw [h] at hz; simp at hz; omega)); clear hb5 ho5 hx5 hv5)
          | (refine step_append rfl _ _ _ rfl 3 (.int .i64 0) 1 8 el_ints (Value.slice ta K tc) K (ints LK.terms) rfl (hown.keep (((Ext.refl [] W4).alloc _).drew) (by simp)) (.slice (some ⟨W4.heap.size, 0, none⟩) 1 1) 1 [.int .i64 xt] rfl ?_ (icells_one .i64 [xt]) (by omega) (by unfold maxLen; omega) ?_; (exact (Rd.ints1 (w := W4) xt rfl).drew); intro v' w5 ho5 hx5 hv5; obtain ⟨a5, c5, rfl⟩ := Rd.isSlice (Own.rd ho5); have hx5 : Ext (vblocks (Value.slice ta K tc)) W4 w5 := (((Ext.refl _ W4).alloc _).drew).trans hx5 (fun x hx => .inl hx); have hb5 := Blk.keep HHb.out hx5 (fun hh => HHq.out _ hh rfl); have c5' : w5.cell? ⟨q, 4, none⟩ = some (Value.slice ta K tc) := Blk.c hb5 4; have f5' := Blk.f hb5 4; have HO5 := Hid.of ho5; have HX5 := Hid.of hx5; have HV5 : Hid (∀ z ∈ vblocks (.slice a5 (K + 1) c5), z ∈ vblocks (Value.slice ta K tc) ∨ W4.heap.size ≤ z) := Hid.of (fun z hz => by rcases hv5 with h | h; exact .inl (h ▸ hz); exact .inr (by rw [h] at hz; simp at hz; omega)); clear hb5 ho5 hx5 hv5))
              all_goals (
                have hg := LgM.grown hM.out HXW.out (by rw [← HKK.out]; exact HO5.out) HX5.out (by rw [← HKK.out]; exact HV5.out) HOk.out
                rw [← HKK.out, ← HN.out] at hg
                have HGr := Hid.of hg
                clear hg HO5 HX5 HV5 hown
                go_wp2
                go_roundw
                case rel => exact ⟨j + 1, _, by congr 1, by omega, HGr.out.1, hK.out.trans HGr.out.2⟩
                case measure => simp [intOf]; omega)
            · obtain rfl : j = k := by omega
              have htk : es.take j = es := List.take_of_length_le (by have := HL.out; omega)
              rw [htk] at hM
              have HM := Hid.of hM.out
              clear hM htk
              go_wp2
              go_ret
              rw [HG.out.1, HG.out.2]
              exact ⟨rfl, tv2, D', ⟨HM.out, HP.out⟩, hK.out⟩
end Go.Proofs.Ytmjgbkepngeckaa
