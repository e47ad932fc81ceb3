/- The model's Crash. -/
import Derived.Test.YtpnfgkgloioddaaMdn
import Derived.Test.YtpnfgkgloioddaaMdp
import Derived.Laws.CopyOwn
import Derived.IntWalk
namespace Go.Proofs.Ytpnfgkgloioddaa
open Go.RowKit
set_option linter.unusedVariables false
set_option linter.unusedSimpArgs false

theorem Ext.setRow {F : List Nat} {w w' : World} (h : Ext F w w') {g : Nat} (hg : g ∈ F ∨ w.heap.size ≤ g) (cs : Array Value) : Ext F w (w'.setRow g cs) := by
  refine h.trans (G := [g]) ⟨rfl, rfl, rfl, by simp [World.setRow], fun k hk hn => ?_⟩ (by simpa using hg)
  exact setRow_other w' g k cs (by intro e; subst e; simp at hn)
theorem Blk.setRow {w : World} {g : Nat} {t : TypeId} {cs : List Value} (h : Blk w g t cs) (ds : List Value) : Blk (w.setRow g ds.toArray) g t ds := setRow_heap w g _ _ t _ h
theorem run_copy_rows {P : Program} (T E ty : TypeId) (hu : P.underlying T = some (.slice E)) (hs : (P.info? E).map (·.size) = some 1) (w : World) (g s n : Nat) (f f0 : Int → Value) (h1 : ∀ x, (f x).oneCell' = true)
    (hg : Blk w g E (row n f0)) (hsrc : Blk w s E (row n f)) :
    (Builtin.copy_ #[T, T] ty #[.slice (some ⟨g, 0, none⟩) n n, .slice (some ⟨s, 0, none⟩) n n]).run P w = .ok (goInt n) (w.setRow g (row n f).toArray) := by
  have := run_copy_row (P := P) w T T ty E g 0 n n ⟨s, 0, none⟩ n n (row n f0).toArray E (row n f) hu hs hg (by rw [row_length]; exact (Nat.min_self n).symm)
    (fun j v h => by
      rw [← hsrc.c j] at h
      have e : (⟨s, 0, none⟩ : Addr).add j = ⟨s, j, none⟩ := by unfold Addr.add; split <;> simp_all
      rw [e]; exact h) (by simp [row_length]) (fun v hv => by
      unfold row at hv
      obtain ⟨i, -, rfl⟩ := List.mem_map.1 hv
      exact h1 _)
  rw [this]
  have e : List.drop (0 + (row n f).length) (row n f0).toArray.toList = [] := by apply List.drop_eq_nil_of_le; simp [row_length]
  rw [e]
  simp [row_length]
theorem fatesD_past (fs : List Int) : ∀ (l : List (Int × List UInt8)) (i : Nat) (D : Dv), fs.length ≤ i → fatesD fs i l D = D
  | [], _, _, _ => rfl
  | c :: l, i, D, h => by
    show fatesD fs (i + 1) l (fateD (fs.getD i 0) c D) = D
    have : fs.getD i 0 = 0 := by rw [List.getD, List.getElem?_eq_none h]; rfl
    rw [this, fatesD_past fs l (i + 1) _ (by omega)]; rfl
theorem fatesD_split (fs : List Int) : ∀ (l m : List (Int × List UInt8)) (i : Nat) (D : Dv), fatesD fs i (l ++ m) D = fatesD fs (i + l.length) m (fatesD fs i l D)
  | [], _, _, _ => rfl
  | c :: l, m, i, D => by
    show fatesD fs (i + 1) (l ++ m) _ = fatesD fs (i + (l.length + 1)) m _
    rw [fatesD_split fs l m (i + 1), Nat.add_right_comm, Nat.add_assoc]; rfl
def MCrashPost (D : Dv) (w : World) (e : Ending) (w' : World) : Prop :=
  ∃ m gs gg gh n, e = .returned (.pointer (some ⟨m, 0, none⟩)) ∧ MdIn w' m gs gg gh (.slice none 0 0) n D ∧ Ext [] w w' ∧ w.heap.size ≤ m ∧ w.heap.size ≤ gs ∧ w.heap.size ≤ gg ∧ w.heap.size ≤ gh
theorem MdIn.torn {w : World} {m gs gg gh : Nat} {vn : Value} {n : Nat} {D : Dv} (h : MdIn w m gs gg gh vn n D) (i : Nat) (s : List UInt8) : MdIn ((w.setCell ⟨gs, i, none⟩ (str s)).setCell ⟨gh, i, none⟩ (.bool true)) m gs gg gh vn n { putD i s D with hurt := setF D.hurt i true } :=
  (h.setSafe i s).setHurt i true
set_option maxRecDepth 100000 in
set_option maxHeartbeats 20000000 in
theorem mcrash_any (m gs gg gh : Nat) (vn : Value) (n : Nat) (D : Dv) (ad : Option Addr) (len cap : Nat) (fs : List Int) (w : World) (h : MdIn w m gs gg gh vn n D) (hok : DvOk D) (hin : InR D) (hlen : D.since.length ≤ 1000000)
    (hR : Rd w 1 (.slice ad len cap) len (fs.map (Value.int .i64))) :
    Calls Try.prog 37 #[.pointer (some ⟨m, 0, none⟩), .slice ad len cap] w (MCrashPost (crashD fs D) w) := by
  have hsz := h.size
  have hmx := hok.size
  have hmn := hok.size0
  have hdl : ∀ c ∈ D.since, c.2.length ≤ 512 := hok.since
  have hrg : ∀ c ∈ D.since, 0 ≤ c.1 ∧ c.1 < (n : Int) := fun c hc => by have := hin c hc; omega
  have hfl : fs.length = len ∧ len ≤ 9223372036854775807 := by have := hR.len; unfold maxLen at this; simp at this; omega
  obtain ⟨c0, -⟩ := h.c
  go_enter Try.func37, Try.ntmps37
  go_wp2_with fail
  refine (mnew_any (n : Int) w).mono ?_
  rintro e w1 ⟨m', GS, GG, GH, k, rfl, hN, hx, l1, l2, l3, l4⟩
  obtain rfl : k = n := by have := hN.size; have e : (newD (k : Int)).size = min (max (k : Int) 0) 4096 := rfl; have e2 : (newD (n : Int)).size = min (max (n : Int) 0) 4096 := rfl; omega
  have h1 := h.keep0 hx
  have hml := h.lts
  have HB : Hid (bareD D = { newD (k : Int) with safe := D.safe, lost := D.lost, hurt := D.hurt }) := by show _ = _; unfold bareD; rw [hsz]
  have nn : m ≠ m' ∧ m ≠ GS ∧ m ≠ GG ∧ m ≠ GH ∧ gs ≠ m' ∧ gs ≠ GS ∧ gs ≠ GG ∧ gs ≠ GH ∧ gg ≠ m' ∧ gg ≠ GS ∧ gg ≠ GG ∧ gg ≠ GH ∧ gh ≠ m' ∧ gh ≠ GS ∧ gh ≠ GG ∧ gh ≠ GH := by
    obtain ⟨x1, x2, x3, x4, -⟩ := hml
    refine ⟨?_, ?_, ?_, ?_, ?_, ?_, ?_, ?_, ?_, ?_, ?_, ?_, ?_, ?_, ?_, ?_⟩ <;> omega
  obtain ⟨o1, o2, o3, o4, o5, o6, o7, o8, o9, o10, o11, o12, o13, o14, o15, o16⟩ := nn
  have HL : Hid (w.heap.size ≤ m' ∧ w.heap.size ≤ GS ∧ w.heap.size ≤ GG ∧ w.heap.size ≤ GH) := ⟨l1, l2, l3, l4⟩
  obtain ⟨d1, d2, d3, d4, d5, d6⟩ : GS ≠ m' ∧ GG ≠ m' ∧ GH ≠ m' ∧ GS ≠ GG ∧ GS ≠ GH ∧ GG ≠ GH := ⟨hN.n1, hN.n2, hN.n3, hN.n12, hN.n13, hN.n23⟩
  -- the three copies
  have u1 := run_copy_rows (P := Try.prog) 22 9 3 Try.underlying22 (by kernel_rfl) w1.drew GS gs k (fun x => str (D.safe x)) _ (fun _ => rfl) (hN.safe.keep (Ext.refl [] _).drew (by simp)) (h1.safe.keep (Ext.refl [] _).drew (by simp))
  have hx1 : Ext [GS] w1 (w1.drew.setRow GS (row k fun x => str (D.safe x)).toArray) := (Ext.refl [GS] w1).drew.setRow (.inl (by simp)) _
  have hb1 : Blk (w1.drew.setRow GS (row k fun x => str (D.safe x)).toArray) GS 9 (row k fun x => str (D.safe x)) := Blk.setRow (hN.safe.keep (Ext.refl [] _).drew (by simp)) _
  obtain ⟨q0, q1, q2, q3, q4, q5, q6⟩ := h1.c
  obtain ⟨p0, p1, p2, p3, p4, p5, p6⟩ := hN.c
  clear c0 hmx hmn hok hin l1 l2 l3 l4
  go_wp2_with fail
  go_region
  obtain ⟨w2, hw2⟩ : ∃ W, W = w1.drew.setRow GS (row k fun x => str (D.safe x)).toArray := ⟨_, rfl⟩
  rw [← hw2] at hx1 hb1
  rw [← hw2]
  have h2 := h1.keep hx1 (by simp [o2]) (by simp [o6]) (by simp [o10]) (by simp [o14]) (fun z hz => by have := hml.2.2.2.2 z hz; have := HL.out; simp; omega)
  have hm2 := hN.blk.keep hx1 (by simp [Ne.symm d1])
  have hg2 := hN.gone.keep hx1 (by simp [Ne.symm d4])
  have hh2 := hN.hurt.keep hx1 (by simp [Ne.symm d5])
  clear u1 hw2 q0 q1 q2 q3 q4 q5 q6 p0 p1 p2 p3 p4 p5 p6 h1
  have hx2 : Ext [GG] w2 (w2.drew.setRow GG (row k fun x => .bool (D.lost x)).toArray) := (Ext.refl [GG] w2).drew.setRow (.inl (by simp)) _
  have hb2 : Blk (w2.drew.setRow GG (row k fun x => .bool (D.lost x)).toArray) GG 4 (row k fun x => .bool (D.lost x)) := Blk.setRow (hg2.keep (Ext.refl [] _).drew (by simp)) _
  have u2 := run_copy_rows (P := Try.prog) 108 4 3 Try.underlying108 (by kernel_rfl) w2.drew GG gg k (fun x => .bool (D.lost x)) _ (fun _ => rfl) (hg2.keep (Ext.refl [] _).drew (by simp)) (h2.gone.keep (Ext.refl [] _).drew (by simp))
  obtain ⟨q0, q1, q2, q3, q4, q5, q6⟩ := h2.c
  have p1 := hm2.c 1
  have p3 := hm2.c 3
  have p4 := hm2.c 4
  simp only [List.getElem?_cons_zero, List.getElem?_cons_succ] at p1 p3 p4
  go_wp2_with fail
  go_region
  obtain ⟨w3, hw3⟩ : ∃ W, W = w2.drew.setRow GG (row k fun x => .bool (D.lost x)).toArray := ⟨_, rfl⟩
  rw [← hw3] at hx2 hb2
  rw [← hw3]
  have h3 := h2.keep hx2 (by simp [o3]) (by simp [o7]) (by simp [o11]) (by simp [o15]) (fun z hz => by have := hml.2.2.2.2 z hz; have := HL.out; simp; omega)
  have hm3 := hm2.keep hx2 (by simp [Ne.symm d2])
  have hs3 := hb1.keep hx2 (by simp [d4])
  have hh3 := hh2.keep hx2 (by simp [Ne.symm d6])
  clear u2 hw3 q0 q1 q2 q3 q4 q5 q6 p1 p3 p4 h2 hm2 hb1 hh2 hg2
  have hx3 : Ext [GH] w3 (w3.drew.setRow GH (row k fun x => .bool (D.hurt x)).toArray) := (Ext.refl [GH] w3).drew.setRow (.inl (by simp)) _
  have hb3 : Blk (w3.drew.setRow GH (row k fun x => .bool (D.hurt x)).toArray) GH 4 (row k fun x => .bool (D.hurt x)) := Blk.setRow (hh3.keep (Ext.refl [] _).drew (by simp)) _
  have u3 := run_copy_rows (P := Try.prog) 108 4 3 Try.underlying108 (by kernel_rfl) w3.drew GH gh k (fun x => .bool (D.hurt x)) _ (fun _ => rfl) (hh3.keep (Ext.refl [] _).drew (by simp)) (h3.hurt.keep (Ext.refl [] _).drew (by simp))
  obtain ⟨q0, q1, q2, q3, q4, q5, q6⟩ := h3.c
  have p1 := hm3.c 1
  have p3 := hm3.c 3
  have p4 := hm3.c 4
  simp only [List.getElem?_cons_zero, List.getElem?_cons_succ] at p1 p3 p4
  go_wp2_with fail
  go_region
  obtain ⟨w4, hw4⟩ : ∃ W, W = w3.drew.setRow GH (row k fun x => .bool (D.hurt x)).toArray := ⟨_, rfl⟩
  rw [← hw4] at hx3 hb3
  rw [← hw4]
  have hm4 := hm3.keep hx3 (by simp [Ne.symm d3])
  have hs4 := hs3.keep hx3 (by simp [d5])
  have hg4 := hb2.keep hx3 (by simp [d6])
  have hX : Ext [GS, GG, GH] w1 w4 := ((hx1.mono (by simp)).trans hx2 (by simp)).trans hx3 (by simp)
  have h4 : MdIn w4 m gs gg gh vn k D := h3.keep hx3 (by simp [o4]) (by simp [o8]) (by simp [o12]) (by simp [o16]) (fun z hz => by have := hml.2.2.2.2 z hz; have := HL.out; simp; omega)
  have hC : MdIn w4 m' GS GG GH (.slice none 0 0) k (bareD D) := by
    rw [HB.out]
    exact ⟨hm4, by show min (max (k : Int) 0) 4096 = (k : Int); have := hN.size; have e : (newD (k : Int)).size = min (max (k : Int) 0) 4096 := rfl; omega, hs4, hg4, hb3, Own.nil _ _ _, d1, d2, d3, d4, d5, d6, by simp [vblocks]⟩
  clear u3 hw4 q0 q1 q2 q3 q4 q5 q6 p1 p3 p4 h3 hm3 hs3 hh3 hb2 hx1 hx2 hx3 hm4 hs4 hg4 hb3 hN
  have hXw : Ext [] w w4 := hx.trans hX (fun z hz => by have := HL.out; simp at hz; omega)
  have hvl : ∀ z ∈ vblocks vn, z ≠ GS ∧ z ≠ GH := fun z hz => by have := hml.2.2.2.2 z hz; have := HL.out; omega
  have hR4 := hR.keep hXw (by simp)
  have HW : Hid (w.heap.size ≤ w4.heap.size ∧ m' < w4.heap.size ∧ GS < w4.heap.size ∧ GG < w4.heap.size ∧ GH < w4.heap.size) := ⟨hXw.size, hC.lts.1, hC.lts.2.1, hC.lts.2.2.1, hC.lts.2.2.2.1⟩
  obtain ⟨a0, cap0, hvv⟩ := Rd.isSlice h4.since.rd
  obtain ⟨N, hNN⟩ : ∃ N, N = D.since.length := ⟨_, rfl⟩
  have hsr := h4.since.rd
  have c2 := h4.c.2.2.1
  have hRw := hR
  rw [hvv] at hsr c2
  rw [← hNN] at hsr c2 hlen
  have hsw := h.since.rd
  rw [hvv, ← hNN] at hsw
  obtain ⟨b1, b2, b3, b4, b5, b6⟩ : GS ≠ m' ∧ GH ≠ m' ∧ GS ≠ GH ∧ m' ≠ GS ∧ m' ≠ GH ∧ GH ≠ GS := ⟨d1, d3, d5, Ne.symm d1, Ne.symm d3, Ne.symm d5⟩
  have hdB : fatesD fs 0 (D.since.take 0) (bareD D) = bareD D := rfl
  rw [← hdB] at hC
  clear o1 o2 o3 o4 o5 o6 o7 o8 o9 o10 o11 o12 o13 o14 o15 o16 d1 d2 d3 d4 d5 d6 hX h h4 HB hsr hml hR4 hdB hvv hvl hsz
  go_wp2_with fail
  go_loopw [45] (fun z wr => ∃ j : Nat, j ≤ N ∧ z = .int .i64 j ∧ MdIn wr m' GS GG GH (.slice none 0 0) k (fatesD fs 0 (D.since.take j) (bareD D)) ∧ Ext [] w wr) (fun z _ => N - (intOf z).toNat)
  case atStart => exact ⟨0, by omega, rfl, hC, hXw⟩
  case round =>
    clear hC hXw c2 HW
    obtain ⟨j, hj, rfl, hM, hX⟩ := hrel
    obtain ⟨c0, c1, -, -, c4, -, -⟩ := hM.c
    obtain ⟨hml, hsl, -, hhl, -⟩ := hM.lts
    by_cases hlt : j < N
    · have hjT : j < D.since.length := by omega
      obtain ⟨g, off, rfl, hbw, hc⟩ := hsw.view (by omega)
      have c00 : wr.cell? ⟨g, off + j * 2, none⟩ = some (.int .i64 (D.since[j]).1) := hX.cell (by simp) (hc (j * 2 + 0) (.int .i64 (D.since[j]).1) (by rw [chgs, flatMap_get _ 2 chg_len _ j 0 hjT (by omega)]; rfl))
      have c01 : wr.cell? ⟨g, off + (j * 2 + 1), none⟩ = some (str (D.since[j]).2) := hX.cell (by simp) (hc (j * 2 + 1) (str (D.since[j]).2) (by rw [chgs, flatMap_get _ 2 chg_len _ j 1 hjT (by omega)]; rfl))
      rw [← Nat.add_assoc] at c01
      have HP : Hid (fatesD fs 0 (D.since.take (j + 1)) (bareD D) = fateD (fs.getD j 0) D.since[j] (fatesD fs 0 (D.since.take j) (bareD D))) := by
        show _ = _
        rw [List.take_succ_eq_append_getElem hjT, fatesD_snoc, List.length_take, Nat.zero_add, Nat.min_eq_left (by omega)]
      have HE : Hid (len ≤ j → crashD fs D = fatesD fs 0 (D.since.take j) (bareD D)) := by
        intro hle
        show fatesD fs 0 D.since (bareD D) = _
        rw [← List.take_append_drop j D.since, fatesD_split, fatesD_past _ _ _ _ (by simp [List.length_take]; omega)]
        simp
      have hr := hrg D.since[j] (List.getElem_mem _)
      have hdl2 := hdl D.since[j] (List.getElem_mem _)
      obtain ⟨P, hP⟩ : ∃ P, P = fatesD fs 0 (D.since.take j) (bareD D) := ⟨_, rfl⟩
      rw [← hP] at hM HP HE
      obtain ⟨cc, hcc⟩ : ∃ c, c = D.since[j] := ⟨_, rfl⟩
      rw [← hcc] at c00 c01 HP hr hdl2
      obtain ⟨cb, ct⟩ := cc
      simp only at c00 c01 HP hr hdl2
      obtain ⟨i, rfl⟩ : ∃ i : Nat, cb = (i : Int) := ⟨cb.toNat, by omega⟩
      have hi : i < k := by omega
      have s0 : wr.cell? ⟨GS, i, none⟩ = some (str (P.safe i)) := by rw [hM.safe.c i, row_get _ _ _ hi]
      have v0 : wr.cell? ⟨GH, i, none⟩ = some (.bool (P.hurt i)) := by rw [hM.hurt.c i, row_get _ _ _ hi]
      have sf := hM.safe.f i
      have uf := hM.hurt.f i
      clear hc hcc hP hr
      by_cases hjl : j < len
      · obtain ⟨g3, off3, rfl, hg3w, hc3⟩ := hRw.view (by omega)
        have cf := hX.cell (p := ⟨g3, off3 + j, none⟩) (by simp) (hc3 j (.int .i64 (fs.getD j 0)) (by rw [List.getElem?_map, List.getElem?_eq_getElem (by omega)]; simp [List.getD, show j < fs.length by omega]))
        obtain ⟨f, hff⟩ : ∃ f, f = fs.getD j 0 := ⟨_, rfl⟩
        rw [← hff] at cf HP
        have hgr : g3 < wr.heap.size := by have := hX.size; omega
        clear hff hc3 HE
        by_cases hf1 : f = 1
        · have HF : Hid (fateD f ((i : Int), ct) P = putD i ct P) := by show _ = _; rw [fateD, if_pos hf1]
          rw [hf1] at cf
          clear hf1
          go_wp2
          go_region
          all_goals (
            go_wp2
            go_region
            all_goals (
              go_wp2
              go_roundw
              case rel => exact ⟨j + 1, by omega, by go_num, by rw [HP.out, HF.out]; exact ((hM.setSafe i ct).setHurt i false).keep0 ((((Ext.refl _ _).alloc _).drew).drew), ((((hX.setCell (p := ⟨GS, i, none⟩) (.inr HL.out.2.1) _).setCell (p := ⟨GH, i, none⟩) (.inr HL.out.2.2.2) _).alloc _).drew).drew⟩
              case measure => simp [intOf]; omega))
        · have e1 : (f == 1) = false := by simp [hf1]
          by_cases hf2 : f = 2
          · have HF : Hid (fateD f ((i : Int), ct) P = { putD i (ct.take (ct.length / 2)) P with hurt := setF P.hurt i true }) := by show _ = _; rw [fateD, if_neg hf1, if_pos hf2]
            have hex : ByteArray.extract ⟨ct.toArray⟩ 0 (ct.length / 2) = ⟨(ct.take (ct.length / 2)).toArray⟩ := take_extract ct _ (by omega)
            have hex2 : ByteArray.extract ⟨ct.toArray⟩ 0 (((ct.length : Int) / 2).toNat) = ⟨(ct.take (ct.length / 2)).toArray⟩ := by
              rw [show ((ct.length : Int) / 2).toNat = ct.length / 2 by omega]; exact hex
            have u0 : (0 : Int) ≤ (ct.length : Int) / 2 := by omega
            have u1 : (ct.length : Int) / 2 ≤ (ct.length : Int) := by omega
            have u2 : IntKind.i64.wrap ((ct.length : Int) / 2) = (ct.length : Int) / 2 := IntWalk.i64_in _ ⟨by omega, by omega⟩
            have u3 : Int.tdiv (ct.length : Int) 2 = (ct.length : Int) / 2 := Int.tdiv_eq_ediv_of_nonneg (by omega)
            rw [hf2] at cf
            clear hf1 hf2 e1
            go_wp2
            go_region
            all_goals (
              go_wp2
              go_region
              all_goals (
                go_wp2
                go_roundw
                case rel => exact ⟨j + 1, by omega, by go_num, by rw [HP.out, HF.out]; exact (hM.torn i (ct.take (ct.length / 2))).keep0 ((((Ext.refl _ _).alloc _).drew).drew), ((((hX.setCell (p := ⟨GS, i, none⟩) (.inr HL.out.2.1) _).setCell (p := ⟨GH, i, none⟩) (.inr HL.out.2.2.2) _).alloc _).drew).drew⟩
                case measure => simp [intOf]; omega))
          · have e2 : (f == 2) = false := by simp [hf2]
            have HF : Hid (fateD f ((i : Int), ct) P = P) := by show _ = _; rw [fateD, if_neg hf1, if_neg hf2]
            clear hf1 hf2
            go_wp2
            go_roundw
            case rel => exact ⟨j + 1, by omega, by go_num, by rw [HP.out, HF.out]; exact hM.keep0 ((Ext.refl [] _).alloc _), hX.alloc _⟩
            case measure => simp [intOf]; omega
      · have hkf2 : len ≤ j := by omega
        have HF : Hid (crashD fs D = P) := HE.out hkf2
        clear hjl HE
        go_wp2
        go_ret
        rw [HF.out]
        exact ⟨m', GS, GG, GH, k, rfl, hM.keep0 ((Ext.refl [] _).alloc _), hX.alloc _, HL.out⟩
    · obtain rfl : j = N := by omega
      have HF : Hid (crashD fs D = fatesD fs 0 (D.since.take j) (bareD D)) := by
        show fatesD fs 0 D.since (bareD D) = _
        rw [List.take_of_length_le (by omega)]
      go_wp2
      go_ret
      rw [HF.out]
      exact ⟨m', GS, GG, GH, k, rfl, hM, hX, HL.out⟩
end Go.Proofs.Ytpnfgkgloioddaa
