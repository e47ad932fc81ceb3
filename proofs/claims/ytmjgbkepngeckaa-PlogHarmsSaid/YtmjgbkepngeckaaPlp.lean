/- Package plog: put, on any device. -/
import Derived.Test.YtmjgbkepngeckaaPq1
import Derived.Test.YtmjgbkepngeckaaWr
namespace Go.Proofs.Ytmjgbkepngeckaa
open Go.RowKit
set_option linter.unusedVariables false
set_option linter.unusedSimpArgs false

theorem DevO.sub {w0 w : World} {b : Nat} {D : Dv} {O O' : List Nat} (h : DevO w0 w b D O) (hs : ∀ q ∈ O', q ∈ O) : DevO w0 w b D O' := by
  obtain ⟨⟨F, hF, hl, ho⟩, h1, h2⟩ := h
  exact ⟨⟨F, hF, hl, fun q hq => ho q (hs q hq)⟩, h1, h2⟩
theorem Kept.sub {O O' : List Nat} {w w' : World} (h : Kept O w w') (hs : ∀ q ∈ O', q ∈ O) : Kept O' w w' := fun q hq => h q (hs q hq)
theorem Kept.blk {O : List Nat} {w w' : World} (h : Kept O w w') {g : Nat} {t : TypeId} {cs : List Value} (hb : Blk w g t cs) (hg : g ∈ O) : Blk w' g t cs := h g hg _ hb
theorem Kept.rd {O : List Nat} {w w' : World} (h : Kept O w w') {size n : Nat} {v : Value} {xs : List Value} (hr : Rd w size v n xs) (hv : ∀ z ∈ vblocks v, z ∈ O) : Rd w' size v n xs := by
  obtain ⟨h1, a, cap, rfl, h2, h3, h4, h5⟩ := hr
  refine ⟨h1, a, cap, rfl, h2, h3, h4, fun g hg j u hu => ?_⟩
  subst hg
  have hc := h5 g rfl j u hu
  have hlt := World.block_lt_of_cell? w (g.add j) hc
  have hb : (g.add j).block = g.block := by unfold Addr.add; split <;> rfl
  have := h g.block (hv g.block (by simp [vblocks])) (w.heap[g.block]'(by rw [← hb]; exact hlt)) (Array.getElem?_eq_getElem _)
  rw [← hc]
  exact World.cell?_of_block (w := w) (by rw [hb, this]; exact (Array.getElem?_eq_getElem _).symm)
theorem LgM.sub {w0 w : World} {q b mb : Nat} {tv : Value} {D : Dv} {L : Lg} {n : Int} {O O' : List Nat} (h : LgM w0 w q b mb tv D L n O) (hs : ∀ z ∈ O', z ∈ O) : LgM w0 w q b mb tv D L n O' :=
  ⟨h.blk, h.terms, h.hurt, h.dev.sub (fun z hz => by
    simp only [List.mem_cons, List.mem_append] at hz ⊢
    rcases hz with h | h | h | h
    · exact .inl h
    · exact .inr (.inl h)
    · exact .inr (.inr (.inl h))
    · exact .inr (.inr (.inr (hs z h)))), h.ok, h.ne, h.neq, h.nem, fun z hz => h.out z (hs z hz), h.newq, h.newm, h.newt⟩
theorem LgM.add {w0 w w' : World} {q b mb : Nat} {tv : Value} {D : Dv} {L : Lg} {n : Int} {O : List Nat} (h : LgM w0 w q b mb tv D L n O) (hx : Ext [] w w') (z : Nat) (h1 : w.heap.size ≤ z) (h2 : z < w'.heap.size) : LgM w0 w' q b mb tv D L n (z :: O) := by
  have hk := h.keep hx
  have hq := Blk.lt h.blk
  have hm := h.hurt.lt
  refine ⟨hk.blk, hk.terms, hk.hurt, (h.dev.add hx z h1 h2).sub (fun y hy => ?_), h.ok, h.ne, h.neq, h.nem, fun y hy => ?_, h.newq, h.newm, h.newt⟩
  · simp only [List.mem_cons, List.mem_append] at hy ⊢
    rcases hy with h | h | h | h | h
    · exact .inr (.inl h)
    · exact .inr (.inr (.inl h))
    · exact .inr (.inr (.inr (.inl h)))
    · exact .inl h
    · exact .inr (.inr (.inr (.inr h)))
  · rcases List.mem_cons.1 hy with rfl | hy
    · exact ⟨by omega, by omega, fun hh => by have := h.terms.lt _ hh; omega⟩
    · exact h.out y hy
/-- What put writes: of kind 2 the entries, of kind 3 their marks. -/
def recW (L : Lg) (K : Int) (e : Ent) : Int × Rc := if K = 2 then (L.a e.idx, ⟨2, e.idx, e.term, e.data⟩) else (L.b e.idx, ⟨3, e.idx, e.term, []⟩)
def put1 (L : Lg) (es : List Ent) (D : Dv) : Int × Dv := wrf (es.map (recW L 2)) D
def put2 (L : Lg) (es : List Ent) (D : Dv) : Int × Dv := wrf (es.map (recW L 3)) (put1 L es D).2
def putP (L : Lg) (es : List Ent) (D : Dv) : Int × Dv := if (put1 L es D).1 = 0 then put2 L es D else put1 L es D
def Ent.wf (e : Ent) : Prop := (0 ≤ e.idx ∧ e.idx ≤ 9223372036854775807) ∧ (-9223372036854775808 ≤ e.term ∧ e.term ≤ 9223372036854775807) ∧ e.data.length ≤ maxLen
theorem ecells_len (e : Ent) : e.cells.length = 3 := rfl
theorem recW_wf {L : Lg} {K : Int} {e : Ent} (h : e.wf) : (recW L K e).2.wf := by
  obtain ⟨⟨h1, h2⟩, ⟨h3, h4⟩, h5⟩ := h
  unfold recW
  split
  · exact ⟨⟨by simp, by simp⟩, ⟨by show _ ≤ e.idx; omega, h2⟩, ⟨h3, h4⟩, h5⟩
  · exact ⟨⟨by simp, by simp⟩, ⟨by show _ ≤ e.idx; omega, h2⟩, ⟨h3, h4⟩, by simp⟩
theorem LgM.place {w0 w : World} {q b mb : Nat} {tv : Value} {D : Dv} {L : Lg} {n : Int} {O : List Nat} (h : LgM w0 w q b mb tv D L n O) (i : Int) (hi : 0 ≤ i) :
    Calls Try.prog 54 #[.pointer (some ⟨q, 0, none⟩), .int .i64 i] w (QRet w (.tuple #[.int .i64 (L.a i), .int .i64 (L.b i)])) := place_o w h.blk h.ok i hi
theorem put1_since (L : Lg) (es : List Ent) (D : Dv) : (put1 L es D).2.since.length ≤ D.since.length + es.length := by
  have := wrf_since (es.map (recW L 2)) D
  rwa [List.length_map] at this
set_option maxRecDepth 100000 in
set_option maxHeartbeats 12800000 in
theorem put_o {w0 w : World} {q b mb : Nat} {tv : Value} {D : Dv} {L : Lg} {n : Int} {O : List Nat} (h : LgM w0 w q b mb tv D L n O) (es : List Ent) (a : Option Addr) (len cap : Nat)
    (hR : Rd w 3 (.slice a len cap) len (es.flatMap Ent.cells)) (hO : ∀ z ∈ vblocks (.slice a len cap), z ∈ O) (hes : ∀ e ∈ es, e.wf) (hlen : D.since.length + 2 * len ≤ 1000000) :
    Calls Try.prog 44 #[.pointer (some ⟨q, 0, none⟩), .slice a len cap] w fun e w' => e = .returned (.int .i64 (putP L es D).1) ∧ LgM w0 w' q b mb tv (putP L es D).2 L n O ∧ Kept O w w' := by
  have hl : es.length = len := by have := hR.len.2.2.2; rw [flatMap_len _ 3 ecells_len] at this; omega
  have HP1 : Hid (wrf (es.map (recW L 2)) D = put1 L es D) := Hid.of rfl
  have HP2 : Hid (wrf (es.map (recW L 3)) (put1 L es D).2 = put2 L es D) := Hid.of rfl
  have HP : Hid (putP L es D = if (put1 L es D).1 = 0 then put2 L es D else put1 L es D) := Hid.of rfl
  have HS := Hid.of (put1_since L es D)
  obtain ⟨P1, h1⟩ : ∃ x, x = put1 L es D := ⟨_, rfl⟩
  obtain ⟨P2, h2⟩ : ∃ x, x = put2 L es D := ⟨_, rfl⟩
  obtain ⟨P, h3⟩ : ∃ x, x = putP L es D := ⟨_, rfl⟩
  rw [← h1] at HP1 HP2 HP HS
  rw [← h2] at HP2 HP
  rw [← h3] at HP
  rw [← h3]
  clear h1 h2 h3
  have HL := Hid.of hl
  have HR := Hid.of hR
  have HO := Hid.of hO
  have HE := Hid.of hes
  have H0 := Hid.of h
  have HLen := Hid.of hlen
  have hlm : len ≤ 9223372036854775807 := by omega
  clear h hes hR hlen hl hO
  go_enter Try.func44, Try.ntmps44
  go_upto_region 2 with fail
  obtain ⟨z, hz⟩ : ∃ z, z = w.heap.size := ⟨_, rfl⟩
  obtain ⟨W, hW⟩ : ∃ W, W = w.alloc (.cells #[.int .i64 2, .int .i64 3] 3) := ⟨_, rfl⟩
  have HZ : Hid (Blk W z 3 [.int .i64 2, .int .i64 3]) := Hid.of (by rw [hz, hW]; exact Blk.new w 3 #[.int .i64 2, .int .i64 3])
  have hxW : Ext [] w W := by rw [hW]; exact (Ext.refl _ _).alloc _
  have HM : Hid (LgM w0 W q b mb tv D L n (z :: O)) := Hid.of (H0.out.add hxW z (by omega) (Blk.lt HZ.out))
  have HK : Hid (Kept O w W) := Hid.of (Kept.of hxW)
  have HRW : Hid (Rd W 3 (.slice a len cap) len (es.flatMap Ent.cells)) := Hid.of (HR.out.keep hxW (by simp))
  rw [← hz, ← hW]
  clear hz hW hxW H0 HR
  go_loopw [16] (fun u16 wr => ∃ (p : Nat) (D1 : Dv), u16 = .int .i64 (p : Int) ∧ p ≤ 2 ∧ Hid ((p = 0 → D1 = D) ∧ (p = 1 → P1.1 = 0 ∧ D1 = P1.2) ∧ (p = 2 → P1.1 = 0 ∧ P2.1 = 0 ∧ D1 = P2.2)) ∧ Hid (LgM w0 wr q b mb tv D1 L n (z :: O)) ∧ Hid (Kept (z :: O) W wr)) (fun u16 _ => 2 - (intOf u16).toNat)
  case atStart => exact ⟨0, D, rfl, by omega, ⟨fun _ => rfl, by omega, by omega⟩, HM, Kept.refl _ _⟩
  case round =>
    obtain ⟨p, D1, rfl, hp, hD1, hM1, hK1⟩ := hrel
    by_cases hp2 : p = 2
    · subst hp2
      have HD2 := Hid.of (hD1.out.2.2 rfl)
      clear hD1
      go_wp2
      go_ret
      obtain ⟨e1, e2, e3⟩ := HD2.out
      have hPe : P = P2 := by rw [HP.out, if_pos e1]
      rw [hPe, e2, ← e3]
      exact ⟨rfl, hM1.out.sub (fun y hy => by simp [hy]), HK.out.trans (hK1.out.sub (fun y hy => by simp [hy]))⟩
    · obtain ⟨KK, hKK⟩ : ∃ K : Int, K = if p = 0 then 2 else 3 := ⟨_, rfl⟩
      obtain ⟨PP, hPP⟩ : ∃ x, x = wrf (es.map (recW L KK)) D1 := ⟨_, rfl⟩
      have hlt2 : p < 2 := by omega
      have hz1 := hK1.out.blk HZ.out (by simp)
      have cz : wr.cell? ⟨z, p, none⟩ = some (.int .i64 KK) := by
        rw [Blk.c hz1 p, hKK]
        match p, hlt2 with
        | 0, _ => rfl
        | 1, _ => rfl
      have HPP : Hid ((PP.1 ≠ 0 → P = PP) ∧ (PP.1 = 0 → (p = 0 → P1.1 = 0 ∧ PP.2 = P1.2) ∧ (p = 1 → P1.1 = 0 ∧ P2.1 = 0 ∧ PP.2 = P2.2))) := Hid.of (by
        rw [hPP, hKK]
        match p, hlt2 with
        | 0, _ =>
          rw [if_pos rfl, hD1.out.1 rfl, HP1.out]
          exact ⟨fun h => by rw [HP.out, if_neg h], fun h => ⟨fun _ => ⟨h, rfl⟩, by omega⟩⟩
        | 1, _ =>
          obtain ⟨e1, e2⟩ := hD1.out.2.1 rfl
          rw [if_neg (by omega), e2, HP2.out]
          exact ⟨fun h => by rw [HP.out, if_pos e1], fun h => ⟨by omega, fun _ => ⟨e1, h, rfl⟩⟩⟩)
      have hK2 : KK = 2 ∨ KK = 3 := by rw [hKK]; split; exact .inl rfl; exact .inr rfl
      have HS1 : Hid (D1.since.length + len ≤ 1000000) := Hid.of (by
        have hls := HLen.out
        match p, hlt2 with
        | 0, _ => rw [hD1.out.1 rfl]; omega
        | 1, _ => obtain ⟨e1, e2⟩ := hD1.out.2.1 rfl; rw [e2]; have := HS.out; have := HL.out; omega)
      have HPP2 := Hid.of hPP
      have HR1 : Hid (Rd wr 3 (.slice a len cap) len (es.flatMap Ent.cells)) := Hid.of ((hK1.out).rd HRW.out (fun y hy => by simp [HO.out y hy]))
      have hp2' : (p : Int) < 2 := by omega
      clear hz1 hKK hPP hD1 HM
      go_upto_region 5 with fail
      go_loopw [22] (fun u22 wr2 => ∃ (j : Nat), u22 = .int .i64 (j : Int) ∧ j ≤ len ∧ Hid ((wrs ((es.map (recW L KK)).take j) D1).1 = 0) ∧ Hid (LgM w0 wr2 q b mb tv (wrs ((es.map (recW L KK)).take j) D1).2 L n (z :: O)) ∧ Hid (Kept (z :: O) wr wr2)) (fun u22 _ => len - (intOf u22).toNat)
      case atStart => exact ⟨0, rfl, by omega, rfl, hM1, Kept.refl _ _⟩
      case round =>
        obtain ⟨j, rfl, hj, hE0, hM2, hKr⟩ := hrel
        have hRr := hKr.out.rd HR1.out (fun y hy => by simp [HO.out y hy])
        by_cases hjl : j < len
        · obtain ⟨g, off, rfl, hgw, hc⟩ := hRr.view (by omega)
          have hje : j < es.length := by have := HL.out; omega
          have c0 : wr.cell? ⟨g, off + j * 3, none⟩ = some (.int .i64 es[j].idx) := hc (j * 3 + 0) _ (by rw [flatMap_get _ 3 ecells_len _ j 0 hje (by omega)]; rfl)
          have c1 : wr.cell? ⟨g, off + (j * 3 + 1), none⟩ = some (.int .i64 es[j].term) := hc (j * 3 + 1) _ (by rw [flatMap_get _ 3 ecells_len _ j 1 hje (by omega)]; rfl)
          have c2 : wr.cell? ⟨g, off + (j * 3 + 2), none⟩ = some (str es[j].data) := hc (j * 3 + 2) _ (by rw [flatMap_get _ 3 ecells_len _ j 2 hje (by omega)]; rfl)
          rw [← Nat.add_assoc] at c1 c2
          have hew := HE.out es[j] (List.getElem_mem _)
          have hwf := recW_wf (L := L) (K := KK) hew
          have hgj : (es.map (recW L KK))[j]'(by rw [List.length_map]; exact hje) = recW L KK es[j] := List.getElem_map ..
          have htk := wrs_next (l := es.map (recW L KK)) (D := D1) (j := j) (by rw [List.length_map]; exact hje) hE0.out
          rw [hgj] at htk
          have hpf : (wrs ((es.map (recW L KK)).take (j + 1)) D1).1 ≠ 0 → PP = wrs ((es.map (recW L KK)).take (j + 1)) D1 := fun h => by rw [HPP2.out]; exact wrf_fail h
          have HF := Hid.of hpf
          have hdl : (wrs ((es.map (recW L KK)).take j) D1).2.since.length ≤ 1000000 := by
            have h1 := wrs_since ((es.map (recW L KK)).take j) D1
            have h2 : ((es.map (recW L KK)).take j).length ≤ len := by rw [List.length_take]; omega
            have h3 := HS1.out
            omega
          have hidx := hew.1.1
          have cp := fun w' (hx : Ext [] wr w') => (hM2.out.keep hx).place es[j].idx hidx
          have cb := fun w' (hx : Ext [] wr w') => (hM2.out.keep hx).blk.cells.1
          have hsw := fun w' (hx : Ext [] wr w') => swrite_o b (wrs ((es.map (recW L KK)).take j) D1).2 (recW L KK es[j]).1 (recW L KK es[j]).2 w0 w' _ (hM2.out.keep hx).dev hdl hwf
          have HC := Hid.of (show recW L KK es[j] = (if KK = 2 then (L.a es[j].idx, ⟨2, es[j].idx, es[j].term, es[j].data⟩) else (L.b es[j].idx, ⟨3, es[j].idx, es[j].term, []⟩)) from rfl)
          obtain ⟨Dj, hDj⟩ : ∃ x, x = wrs ((es.map (recW L KK)).take j) D1 := ⟨_, rfl⟩
          rw [← hDj] at hsw htk
          have HT := Hid.of htk
          clear hgj hpf
          have HDj := Hid.of hDj
          have HCb := Hid.of cb
          have HSw := Hid.of hsw
          obtain ⟨c, hcc⟩ : ∃ c, c = recW L KK es[j] := ⟨_, rfl⟩
          rw [← hcc] at hsw HC HT HSw
          obtain ⟨e, he⟩ : ∃ e, e = es[j] := ⟨_, rfl⟩
          rw [← he] at c0 c1 c2 cp HC hidx
          clear hc hew hwf htk hdl hsw cb hDj he hcc hRr hje
          obtain ⟨xi, xt, xd⟩ := e
          simp only at c0 c1 c2 cp HC hidx
          obtain ⟨A, hA⟩ : ∃ x, x = L.a xi := ⟨_, rfl⟩
          obtain ⟨B, hB⟩ : ∃ x, x = L.b xi := ⟨_, rfl⟩
          rw [← hA, ← hB] at HC
          have cp' : ∀ w', Ext [] wr w' → Calls Try.prog 54 #[.pointer (some ⟨q, 0, none⟩), .int .i64 xi] w' (QRet w' (.tuple #[.int .i64 A, .int .i64 B])) := by rw [hA, hB]; exact cp
          clear cp hA hB
          go_upto_if 40 with (go_at_call 54; (with_reducible refine (cp' _ ((Ext.refl _ _).alloc _)).mono ?_); rintro e w3 ⟨rfl, m, rfl⟩; clear cp')
          obtain ⟨E, hE⟩ : ∃ E, E = wr.heap.size := ⟨_, rfl⟩
          obtain ⟨W2, hW2⟩ : ∃ W, W = (wr.alloc (.cells #[.int .i64 xi, .int .i64 xt, str xd] 37)).drewN m := ⟨_, rfl⟩
          have x2 : Ext [] wr W2 := by rw [hW2]; exact ((Ext.refl _ _).alloc _).drewN m
          have HE2 : Hid (Blk W2 E 37 [.int .i64 xi, .int .i64 xt, str xd]) := Hid.of (by rw [hE, hW2]; exact Blk.new wr 37 #[.int .i64 xi, .int .i64 xt, str xd])
          have hRE : W2.heap.size = E + 1 := by rw [hE, hW2]; simp
          rw [← hE, ← hW2]
          clear hE hW2
          obtain ⟨W3, hW3⟩ : ∃ W, W = W2.alloc (.cells #[.int .i64 KK, .int .i64 xi, .int .i64 xt, .string ⟨#[]⟩] 39) := ⟨_, rfl⟩
          have x3 : Ext [] W2 W3 := by rw [hW3]; exact (Ext.refl _ _).alloc _
          have HR3 : Hid (RcAt W3 W2.heap.size ⟨KK, xi, xt, []⟩) := Hid.of (by rw [hW3]; exact RcAt.new W2 KK xi xt [])
          have HN3 : Hid (wr.heap.size ≤ W2.heap.size) := Hid.of x2.size
          have HE3 := Hid.of (Blk.keep HE2.out x3 (by simp))
          have HX3 := Hid.of (x2.then0 x3)
          rw [← hW3]
          rw [hRE] at HR3 HN3
          clear hRE
          generalize E + 1 = R at HR3 HN3 ⊢
          clear hW3 x3 x2 HE2
          have e2 : W3.cell? ⟨E, 2, none⟩ = some (str xd) := Blk.c HE3.out 2
          have rz := fun j => frozen_of_row W3 R j _ _ HR3.out
          have r3 := HR3.out.c3
          have rlt := HR3.out.lt
          go_cut [9] (fun v wx => v = .int .i64 c.1 ∧ Hid (RcAt wx R c.2) ∧ Hid (Ext [] wr wx))
          case first =>
            by_cases k2 : KK = 2
            · have HC2 := Hid.of (HC.out.trans (if_pos k2))
              subst k2
              clear HC hK2
              go_wp2
              go_meet
              refine ⟨by rw [HC2.out], ?_, HX3.out.setCell (.inr HN3.out) _⟩
              rw [HC2.out]
              exact Blk.set HR3.out 3 _
            · have k3 : KK = 3 := hK2.resolve_left k2
              have HC2 := Hid.of (HC.out.trans (if_neg k2))
              subst k3
              clear HC hK2 k2
              go_wp2
              go_meet
              exact ⟨by rw [HC2.out], show RcAt _ _ _ by rw [HC2.out]; exact HR3.out, HX3⟩
          case rest =>
            obtain ⟨rfl, HRx, HXx⟩ := hcut
            have cbx := HCb.out wc HXx.out
            have q0 := HRx.out.c0
            have q1 := HRx.out.c1
            have q2 := HRx.out.c2
            have q3 := HRx.out.c3
            have HSW := Hid.of (fun w' (hx : Ext [] wc w') => HSw.out w' (HXx.out.then0 hx))
            clear HRx HSw HCb HE3 HR3 HX3 e2 rz r3 rlt HC
            obtain ⟨ck, ⟨c1, c2, c3, c4⟩⟩ := c
            simp only [Rc.val] at q0 q1 q2 q3 HSW
            go_wp2_with fail
            go_region_with ((try go_at_call 55); (with_reducible refine (HSW.out _ ?hx).mono ?_); (case hx => exact (Ext.refl _ _).drew); rintro e w4 ⟨rfl, hd4, hk4⟩)
            all_goals (
              obtain ⟨x, hx⟩ : ∃ x, x = swE ck ⟨c1, c2, c3, c4⟩ Dj.2 := ⟨_, rfl⟩
              rw [← hx] at HT ⊢
              have H4 := Hid.of (hM2.out.devt hd4 ((Kept.of HXx.out.drew).trans hk4))
              have HT2 : Hid (wrs ((es.map (recW L KK)).take (j + 1)) D1 = (x, swD ck ⟨c1, c2, c3, c4⟩ Dj.2)) := HT
              clear hx hd4 hk4 HT
              by_cases h0 : x = 0
              · subst h0
                go_wp2
                go_roundw
                case rel =>
                  refine ⟨j + 1, by congr 1, by omega, show _ = _ by rw [HT2.out], ?_, hKr.out.trans H4.out.2⟩
                  rw [HT2.out]
                  exact H4.out.1
                case measure => simp [intOf]; omega
              · go_wp2
                go_ret
                have e1 := HF.out (by rw [HT2.out]; exact h0)
                have e2 := HPP.out.1 (by rw [e1, HT2.out]; exact h0)
                rw [e2, e1, HT2.out]
                exact ⟨rfl, H4.out.1.sub (fun y hy => by simp [hy]), (HK.out.trans (hK1.out.sub (fun y hy => by simp [hy]))).trans ((hKr.out.trans H4.out.2).sub (fun y hy => by simp [hy]))⟩)
        · obtain rfl : j = len := by omega
          have e1 : (es.map (recW L KK)).take j = es.map (recW L KK) := List.take_of_length_le (by rw [List.length_map]; have := HL.out; omega)
          rw [e1] at hE0 hM2
          have HW : Hid (PP = (turnE (wrs (es.map (recW L KK)) D1).2, flushD (wrs (es.map (recW L KK)) D1).2)) := Hid.of (by rw [HPP2.out]; exact wrf_end hE0.out)
          obtain ⟨Dj, hDj⟩ : ∃ x, x = wrs (es.map (recW L KK)) D1 := ⟨_, rfl⟩
          rw [← hDj] at hM2 HW
          have cbx := hM2.out.blk.cells.1
          have cf := flush_o b Dj.2 w0 wr _ hM2.out.dev
          clear e1 hDj hE0 HPP2 hRr
          obtain ⟨x, hx⟩ : ∃ x, x = turnE Dj.2 := ⟨_, rfl⟩
          rw [← hx] at cf HW
          clear hx
          by_cases h0 : x = 0
          · subst h0
            have HN := Hid.of (HPP.out.2 (by rw [HW.out]))
            clear HPP
            go_wp2_with ((go_at_call 56; (with_reducible refine cf.mono ?_); rintro e w4 ⟨rfl, hd4, hk4⟩; have H4 := Hid.of (hM2.out.devt hd4 hk4); clear hd4 hk4 cf))
            go_roundw
            case rel =>
              refine ⟨p + 1, PP.2, by congr 1, by omega, ⟨by omega, fun h => HN.out.1 (by omega), fun h => HN.out.2 (by omega)⟩, ?_, (hK1.out.trans hKr.out).trans H4.out.2⟩
              rw [HW.out]
              exact H4.out.1
            case measure => simp [intOf]; omega
          · have HN := Hid.of (HPP.out.1 (by rw [HW.out]; exact h0))
            clear HPP
            go_wp2_with ((go_at_call 56; (with_reducible refine cf.mono ?_); rintro e w4 ⟨rfl, hd4, hk4⟩; have H4 := Hid.of (hM2.out.devt hd4 hk4); clear hd4 hk4 cf))
            go_ret
            rw [HN.out, HW.out]
            exact ⟨rfl, H4.out.1.sub (fun y hy => by simp [hy]), (HK.out.trans (hK1.out.sub (fun y hy => by simp [hy]))).trans ((hKr.out.trans H4.out.2).sub (fun y hy => by simp [hy]))⟩
end Go.Proofs.Ytmjgbkepngeckaa
