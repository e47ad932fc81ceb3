/- (*head.Store).Put. -/
import Derived.Test.YtpnfgkgloioddaaHdOp
import Derived.Test.YtpnfgkgloioddaaRegInv2
namespace Go.Proofs.Ytpnfgkgloioddaa
open Go.RowKit
set_option linter.unusedVariables false
set_option linter.unusedSimpArgs false

def phE (k : Int) (r : Rc) (D : Dv) : Int := if swE k r D ≠ 0 then swE k r D else turnE (swD k r D)
def phD (k : Int) (r : Rc) (D : Dv) : Dv := if swE k r D ≠ 0 then swD k r D else flushD (swD k r D)
def phK (r : Rc) (D : Dv) : Nat → Dv
  | 0 => D
  | k + 1 => phD k r (phK r D k)
def hdMay (t : Int) (h : Hd) : Prop := h.right ∧ t < 281474976710655
instance (t : Int) (h : Hd) : Decidable (hdMay t h) := inferInstanceAs (Decidable (_ ∧ _))
def putHE (t : Int) (h : Hd) (D : Dv) : Int := if ¬ hdMay t h then 1 else if phE 0 (hdRec (t + 1) h) D ≠ 0 then phE 0 (hdRec (t + 1) h) D else phE 1 (hdRec (t + 1) h) (phK (hdRec (t + 1) h) D 1)
def putHD (t : Int) (h : Hd) (D : Dv) : Dv := if ¬ hdMay t h then D else if phE 0 (hdRec (t + 1) h) D ≠ 0 then phK (hdRec (t + 1) h) D 1 else phK (hdRec (t + 1) h) D 2
theorem putH_no {t : Int} {h : Hd} {D : Dv} (hm : ¬ hdMay t h) : putHE t h D = 1 ∧ putHD t h D = D := ⟨if_pos hm, if_pos hm⟩
theorem putH_err {t : Int} {h : Hd} {D : Dv} (hm : hdMay t h) (k : Nat) (hk : k < 2) (hp : ∀ j : Nat, j < k → phE j (hdRec (t + 1) h) (phK (hdRec (t + 1) h) D j) = 0)
    (he : phE k (hdRec (t + 1) h) (phK (hdRec (t + 1) h) D k) ≠ 0) : putHE t h D = phE k (hdRec (t + 1) h) (phK (hdRec (t + 1) h) D k) ∧ putHD t h D = phK (hdRec (t + 1) h) D (k + 1) := by
  unfold putHE putHD
  rw [if_neg (not_not_intro hm), if_neg (not_not_intro hm)]
  match k, hk with
  | 0, _ => exact ⟨if_pos he, if_pos he⟩
  | 1, _ =>
    have h0 : phE 0 (hdRec (t + 1) h) D = 0 := hp 0 (by omega)
    rw [if_neg (not_not_intro h0), if_neg (not_not_intro h0)]
    exact ⟨rfl, rfl⟩
theorem putH_ok {t : Int} {h : Hd} {D : Dv} (hm : hdMay t h) (hp : ∀ j : Nat, j < 2 → phE j (hdRec (t + 1) h) (phK (hdRec (t + 1) h) D j) = 0) :
    putHE t h D = 0 ∧ putHD t h D = phK (hdRec (t + 1) h) D 2 := by
  have h0 : phE 0 (hdRec (t + 1) h) D = 0 := hp 0 (by omega)
  unfold putHE putHD
  rw [if_neg (not_not_intro hm), if_neg (not_not_intro hm), if_neg (not_not_intro h0), if_neg (not_not_intro h0)]
  exact ⟨hp 1 (by omega), rfl⟩
theorem phK_since (r : Rc) (D : Dv) : ∀ k : Nat, (phK r D k).since.length ≤ D.since.length + k
  | 0 => by simp [phK]
  | k + 1 => by
    have h1 := phK_since r D k
    have h2 := swD_since k r (phK r D k)
    have h3 := flushD_since (swD k r (phK r D k))
    unfold phK phD
    split <;> omega
theorem hdRec_wf {t : Int} {h : Hd} (h0 : 0 ≤ t) (h1 : t ≤ 281474976710656) (h2 : -9223372036854775808 ≤ h.term ∧ h.term ≤ 9223372036854775807) : (hdRec t h).wf := by
  refine ⟨by simp [hdRec], ⟨by simp only [hdRec]; omega, by simp only [hdRec]; omega⟩, h2, ?_⟩
  show (hdText h).length ≤ maxLen
  rw [hdText_length]; unfold maxLen; omega
theorem phE_of {k : Int} {r : Rc} {D : Dv} {n : Int} (h : swE k r D = n) (hn : n ≠ 0) : phE k r D = n ∧ phD k r D = swD k r D := by
  unfold phE phD; rw [if_pos (by rw [h]; exact hn), if_pos (by rw [h]; exact hn)]; exact ⟨h, rfl⟩
theorem phE_of0 {k : Int} {r : Rc} {D : Dv} (h : swE k r D = 0) : phE k r D = turnE (swD k r D) ∧ phD k r D = flushD (swD k r D) := by
  unfold phE phD; rw [if_neg (by rw [h]; simp), if_neg (by rw [h]; simp)]; exact ⟨rfl, rfl⟩

theorem run_max3h {P : Program} (ts : Array TypeId) (t : TypeId) (k : IntKind) (x y z : Int) (w : World) : (Builtin.max_ ts t #[.int k x, .int k y, .int k z]).run P w = .ok (.int k (max (max x y) z)) w := run_max3 ts t k x y z w
attribute [local go_sem high] run_max3h

def HPutPost (q b : Nat) (t : Int) (h0 h : Hd) (D : Dv) (O O' : List Nat) (w0 w : World) (e : Ending) (w' : World) : Prop :=
  e = .returned (.int .i64 (putHE t h D)) ∧ DevO w0 w' b (putHD t h D) O ∧ StAt w' q b (if putHE t h D = 0 then t + 1 else t) (if putHE t h D = 0 then h else h0) ∧ Kept O' w w'
theorem hPut_err {q b : Nat} {t : Int} {h0 h : Hd} {D : Dv} {O O' : List Nat} {w0 w w' : World} {n : Int} {D' : Dv} (hE : putHE t h D = n) (hn : n ≠ 0) (hD : putHD t h D = D') (hd : DevO w0 w' b D' O) (hs : StAt w' q b t h0) (hk : Kept O' w w') :
    HPutPost q b t h0 h D O O' w0 w (.returned (.int .i64 n)) w' := by
  refine ⟨by rw [hE], by rw [hD]; exact hd, ?_, hk⟩
  rw [if_neg (by rw [hE]; exact hn), if_neg (by rw [hE]; exact hn)]
  exact hs
theorem hPut_ok {q b : Nat} {t : Int} {h0 h : Hd} {D : Dv} {O O' : List Nat} {w0 w w' : World} {D' : Dv} (hE : putHE t h D = 0) (hD : putHD t h D = D') (hd : DevO w0 w' b D' O) (hs : StAt w' q b (t + 1) h) (hk : Kept O' w w') :
    HPutPost q b t h0 h D O O' w0 w (.returned (.int .i64 0)) w' := by
  refine ⟨by rw [hE], by rw [hD]; exact hd, ?_, hk⟩
  rw [if_pos hE, if_pos hE]
  exact hs

theorem DevTo.pre {w w1 w2 : World} {b : Nat} {F : List Nat} {D : Dv} (h : DevTo w1 w2 b F D) (hx : Ext [] w w1) : DevTo w w2 b F D := by
  obtain ⟨h1, F', h2, h3⟩ := h
  have := hx.size
  exact ⟨(hx.mono (by simp)).trans h1 (fun z hz => .inl hz), F', h2, fun k hk => (h3 k hk).imp_right (fun h => by omega)⟩
set_option maxHeartbeats 800000 in
theorem swrite_any (b : Nat) (F : List Nat) (D : Dv) (k : Int) (r : Rc) (w : World) (h : DevAt w b F D) (hok : DvOk D) (hlen : D.since.length ≤ 1000000) (hwf : r.wf) :
    Calls Try.prog 39 #[.pointer (some ⟨b, 0, none⟩), .int .i64 k, r.val] w fun e w' => e = .returned (.int .i64 (swE k r D)) ∧ DevTo w w' b F (swD k r D) := by
  have cp := fun W => sput_any r W hwf
  have HE : Hid (swE k r D = if putE r = 0 then writeE k (putV r) D else putE r) := rfl
  have HD : Hid (swD k r D = if putE r = 0 then writeD k (putV r) D else D) := rfl
  obtain ⟨v, hv⟩ : ∃ v, v = putV r := ⟨_, rfl⟩
  obtain ⟨x, hx⟩ : ∃ v, v = putE r := ⟨_, rfl⟩
  obtain ⟨E, hE⟩ : ∃ v, v = swE k r D := ⟨_, rfl⟩
  obtain ⟨D', hD⟩ : ∃ v, v = swD k r D := ⟨_, rfl⟩
  unfold PutPost at cp
  rw [← hv, ← hx] at cp HE HD
  rw [← hE] at HE ⊢
  rw [← hD] at HD ⊢
  clear hv hx hE hD hwf
  obtain ⟨k1, i1, t1, d1⟩ := r
  unfold Rc.val at cp ⊢
  simp only at cp ⊢
  go_enter Try.func39, Try.ntmps39
  go_wp2_with fail
  refine (cp _).mono ?_
  rintro e w1 ⟨rfl, hx⟩
  have hx1 : Ext [] w w1 := ((Ext.refl _ _).alloc _).then0 hx
  clear hx cp
  by_cases h0 : x = 0
  · subst h0
    rw [if_pos rfl] at HE HD
    go_wp2_with fail
    refine (write_any b F D k v w1 (h.keep0 hx1) hok hlen).mono ?_
    rintro e w2 ⟨rfl, h2⟩
    go_wp2
    go_ret
    rw [HE.out, HD.out]
    exact ⟨rfl, h2.pre hx1⟩
  · rw [if_neg h0] at HE HD
    go_wp2
    go_ret
    rw [HE.out, HD.out]
    exact ⟨rfl, hx1.mono (by simp), F, h.keep0 hx1, fun k hk => .inl hk⟩

def hpΦ (q b hb k B0 : Nat) (t x vo fi ba : Int) (n : Nat) (v : Value) (w : World) : Prop :=
  match n with
  | 0 => v = .pointer (some ⟨q, 0, none⟩)
  | 1 => v = .pointer (some ⟨q, 0, none⟩)
  | 2 => v = .pointer (some ⟨q, 0, none⟩)
  | 3 => v = .pointer (some ⟨b, 0, none⟩)
  | 4 => v = .int .i64 k
  | 5 => v = .pointer (some ⟨q, 0, none⟩)
  | 6 => v = .pointer (some ⟨q, 0, none⟩)
  | 7 => v = .pointer (some ⟨q, 1, none⟩)
  | 8 => v = .int .i64 t
  | 9 => v = .int .i64 (t + 1)
  | 10 => v = .pointer (some ⟨hb, 0, none⟩)
  | 11 => v = .int .i64 x
  | 12 => v = .pointer (some ⟨hb, 1, none⟩)
  | 13 => v = .int .i64 vo
  | 14 => v = .pointer (some ⟨hb, 2, none⟩)
  | 15 => v = .int .i64 fi
  | 16 => v = .pointer (some ⟨hb, 3, none⟩)
  | 17 => v = .int .i64 ba
  | 18 => ∃ p, B0 ≤ p ∧ v = .slice (some ⟨p, 0, none⟩) 3 3 ∧ Rd w 1 v 3 ([vo, fi, ba].map (Value.int .i64))
  | _ => True
theorem hpΦ_keep (F0 : List Nat) (q b hb k B0 : Nat) (t x vo fi ba : Int) (hF : ∀ z ∈ F0, z < B0) (n : Nat) (v : Value) (F : List Nat) (w w' : World) (h : hpΦ q b hb k B0 t x vo fi ba n v w) (hx : Ext (F0 ++ F) w w') (hv : ∀ x ∈ vblocks v, x ∉ F) : hpΦ q b hb k B0 t x vo fi ba n v w' := by
  unfold hpΦ at h ⊢
  split at h <;> first | exact h | (
    obtain ⟨p, hp, rfl, hr⟩ := h
    refine ⟨p, hp, rfl, hr.keep hx (fun z hz hm => ?_)⟩
    rcases List.mem_append.1 hm with h1 | h1
    · have := hF z h1
      simp [vblocks] at hz
      omega
    · exact hv z hz h1)
def hpC (b B0 : Nat) (F : List Nat) (Dk D' : Dv) (E t x : Int) (T : List UInt8) (s : Nat) (g : Nat → Value) (O : List Nat) (w : World) : Prop :=
  match s with
  | 0 => O = [] ∧ DevAt w b F Dk
  | 1 => OwnB w (g 74) T ∧ (∀ z ∈ vblocks (g 74), z ∈ O) ∧ DevAt w b F Dk
  | 2 => g 75 = str T ∧ DevAt w b F Dk
  | 3 => g 76 = .agg #[.int .i64 1, .int .i64 (t + 1), .int .i64 x, str T] ∧ DevAt w b F Dk
  | 4 => g 77 = .int .i64 E ∧ ∃ F', DevAt w b F' D' ∧ ∀ z ∈ F', z ∈ F ∨ B0 ≤ z
  | 5 => g 6 = .int .i64 E ∧ ∃ F', DevAt w b F' D' ∧ ∀ z ∈ F', z ∈ F ∨ B0 ≤ z
  | _ => True
theorem hpC_keep (b B0 : Nat) (F : List Nat) (Dk D' : Dv) (E t x : Int) (T : List UInt8) (s : Nat) (g : Nat → Value) (O : List Nat) (w w' : World) (h : hpC b B0 F Dk D' E t x T s g O w) (hx : Ext [] w w') : hpC b B0 F Dk D' E t x T s g O w' := by
  unfold hpC at h ⊢
  split at h
  · exact ⟨h.1, h.2.keep0 hx⟩
  · exact ⟨h.1.keep hx (by simp), h.2.1, h.2.2.keep0 hx⟩
  · exact ⟨h.1, h.2.keep0 hx⟩
  · exact ⟨h.1, h.2.keep0 hx⟩
  · obtain ⟨h1, F', h2, h3⟩ := h; exact ⟨h1, F', h2.keep0 hx, h3⟩
  · obtain ⟨h1, F', h2, h3⟩ := h; exact ⟨h1, F', h2.keep0 hx, h3⟩
  · trivial
set_option maxRecDepth 100000 in
set_option maxHeartbeats 3200000 in
theorem hput_o (q b : Nat) (t : Int) (h0 h : Hd) (D : Dv) (O O' : List Nat) (w0 w : World) (hd : DevO w0 w b D O) (hq : q ∈ O) (hq0 : w0.heap.size ≤ q) (hs : StAt w q b t h0) (ht : 0 ≤ t) (ht2 : t ≤ 281474976710655)
    (hO : ∀ x ∈ O', x ∈ O ∧ x ≠ q) (hlen : D.since.length ≤ 900000) :
    Calls Try.prog 45 #[.pointer (some ⟨q, 0, none⟩), h.val] w (HPutPost q b t h0 h D O O' w0 w) := by
  have s0 := hs.c 0
  have s1 := hs.c 1
  simp only [List.getElem?_cons_zero, List.getElem?_cons_succ] at s0 s1
  have hqw := Blk.lt hs
  by_cases hm : hdMay t h
  · have HE : Hid (∀ k : Nat, k < 2 → (∀ j : Nat, j < k → phE j (hdRec (t + 1) h) (phK (hdRec (t + 1) h) D j) = 0) → phE k (hdRec (t + 1) h) (phK (hdRec (t + 1) h) D k) ≠ 0 →
        ∀ w' n, phE k (hdRec (t + 1) h) (phK (hdRec (t + 1) h) D k) = n → DevO w0 w' b (phK (hdRec (t + 1) h) D (k + 1)) O → StAt w' q b t h0 → Kept O' w w' → HPutPost q b t h0 h D O O' w0 w (.returned (.int .i64 n)) w') := by
      intro k hk hp he w' n hn hd hs hkk
      obtain ⟨e1, e2⟩ := putH_err hm k hk hp he
      exact hPut_err (e1.trans hn) (by rw [← hn]; exact he) e2 hd hs hkk
    have HY : Hid ((∀ j : Nat, j < 2 → phE j (hdRec (t + 1) h) (phK (hdRec (t + 1) h) D j) = 0) →
        ∀ w', DevO w0 w' b (phK (hdRec (t + 1) h) D 2) O → StAt w' q b (t + 1) h → Kept O' w w' → HPutPost q b t h0 h D O O' w0 w (.returned (.int .i64 0)) w') := by
      intro hp w' hd hs hkk
      obtain ⟨e1, e2⟩ := putH_ok hm hp
      exact hPut_ok e1 e2 hd hs hkk
    obtain ⟨⟨a, bv, c, d, e, f, g, i⟩, hm2⟩ := hm
    have hwf : (hdRec (t + 1) h).wf := hdRec_wf (by omega) (by omega) (by omega)
    have HW : Hid (∀ (k : Nat) (Dk : Dv) (F : List Nat) W, DevAt W b F Dk → DvOk Dk → Dk.since.length ≤ 1000000 → Calls Try.prog 39 #[.pointer (some ⟨b, 0, none⟩), .int .i64 k, .agg #[.int .i64 1, .int .i64 (t + 1), .int .i64 h.term, str (hdText h)]] W
        fun e w' => e = .returned (.int .i64 (swE k (hdRec (t + 1) h) Dk)) ∧ DevTo W w' b F (swD k (hdRec (t + 1) h) Dk)) := fun k Dk F W hd hok hl => swrite_any b F Dk k (hdRec (t + 1) h) W hd hok hl hwf
    have HT : Hid (hdText h = [] ++ encNums [h.vote, h.first, h.base]) := rfl
    have HL : Hid (∀ k : Nat, k ≤ 2 → (phK (hdRec (t + 1) h) D k).since.length ≤ 1000000) := fun k hk => by have := phK_since (hdRec (t + 1) h) D k; omega
    obtain ⟨T, hT⟩ : ∃ T, T = hdText h := ⟨_, rfl⟩
    rw [← hT] at HW HT
    obtain ⟨r, hr⟩ : ∃ r, r = hdRec (t + 1) h := ⟨_, rfl⟩
    rw [← hr] at HW HL HE HY
    clear hT hr hwf
    obtain ⟨x, v, fi, ba⟩ := h
    unfold Hd.val
    simp only at a bv c d e f g i HT HW ⊢
    go_enter Try.func45, Try.ntmps45
    obtain ⟨hb, hhb⟩ : ∃ p, p = w.heap.size := ⟨_, rfl⟩
    go_wp2_with fail
    rw [← hhb]
    have hBW := Blk.newg (t := 75) (C := #[.int .i64 x, .int .i64 v, .int .i64 fi, .int .i64 ba]) hhb.symm
    have hx0 : Ext [] w (w.alloc (.cells #[.int .i64 x, .int .i64 v, .int .i64 fi, .int .i64 ba] 75)) := (Ext.refl _ _).alloc _
    have hdd := hd.add hx0 hb (by omega) (Blk.lt hBW)
    have hss := hs.keep hx0 (by simp)
    have hkk : Kept O' w (w.alloc (.cells #[.int .i64 x, .int .i64 v, .int .i64 fi, .int .i64 ba] 75)) := Kept.of hx0
    have hxb : hb ≠ q := by omega
    have hO2 : ∀ z ∈ O', z ∈ hb :: O := fun z hz => by simp [(hO z hz).1]
    go_loopw [52] (fun u wr => ∃ k : Nat, k ≤ 2 ∧ u = .int .i64 k ∧ DevO w0 wr b (phK r D k) (hb :: O) ∧ StAt wr q b t h0 ∧ Blk wr hb 75 [.int .i64 x, .int .i64 v, .int .i64 fi, .int .i64 ba] ∧ Kept O' w wr ∧ ∀ j : Nat, j < k → phE j r (phK r D j) = 0) (fun u _ => 2 - (intOf u).toNat)
    case atStart => exact ⟨0, by omega, rfl, hdd, hss, hBW, hkk, by omega⟩
    case round =>
      clear hd hs hBW hx0 hdd hss hkk s0 s1 hhb
      obtain ⟨k, hk, rfl, hd, hs, hB, hkk, hp⟩ := hrel
      have s0 := hs.c 0
      have s1 := hs.c 1
      have b0 := hB.c 0
      have b1 := hB.c 1
      have b2 := hB.c 2
      have b3 := hB.c 3
      simp only [List.getElem?_cons_zero, List.getElem?_cons_succ] at s0 s1 b0 b1 b2 b3
      have hqr := Blk.lt hs
      have hbr := Blk.lt hB
      by_cases hlt : k < 2
      · have HE2 : Hid (phE k r (phK r D k) ≠ 0 → ∀ w' n, phE k r (phK r D k) = n → DevO w0 w' b (phK r D (k + 1)) O → StAt w' q b t h0 → Kept O' w w' → HPutPost q b t h0 ⟨x, v, fi, ba⟩ D O O' w0 w (.returned (.int .i64 n)) w') := HE.out k hlt hp
        have HP : Hid (∀ j : Nat, j < k → phE j r (phK r D j) = 0) := hp
        have HK : Hid (phK r D (k + 1) = phD k r (phK r D k)) := rfl
        have hl := HL.out k hk
        obtain ⟨Dk, hDk⟩ : ∃ X, X = phK r D k := ⟨_, rfl⟩
        rw [← hDk] at hd hl HE2 HK
        have hDk2 : Hid (Dk = phK r D k) := hDk
        obtain ⟨E, hE⟩ : ∃ X, X = swE k r Dk := ⟨_, rfl⟩
        obtain ⟨D', hD'⟩ : ∃ X, X = swD k r Dk := ⟨_, rfl⟩
        have HEE : Hid (E = swE k r Dk) := hE
        have HDD : Hid (D' = swD k r Dk) := hD'
        obtain ⟨⟨F1, hF1, hl1, ho1⟩, hxd, hok⟩ := hd
        obtain ⟨F, hF, hsm⟩ := hF1.small
        have hFl : ∀ z ∈ F, z < wr.heap.size := fun z hz => (hsm z hz).2
        have hlF : ∀ z ∈ F, w0.heap.size ≤ z := fun z hz => hl1 z (hsm z hz).1
        have hoF : ∀ z ∈ hb :: O, z ∉ F ∧ z < wr.heap.size := fun z hz => ⟨fun h => (ho1 z hz).1 (hsm z h).1, (ho1 z hz).2⟩
        have hqF : q ∉ F := (hoF q (by simp [hq])).1
        have hbF : hb ∉ F := (hoF hb (by simp)).1
        have hbl : b < wr.heap.size := by obtain ⟨_, _, _, _, hi, _⟩ := hF; exact hi.lts.1
        have cW : ∀ W, DevAt W b F Dk → Calls Try.prog 39 #[.pointer (some ⟨b, 0, none⟩), .int .i64 k, .agg #[.int .i64 1, .int .i64 (t + 1), .int .i64 x, str T]] W
          fun e w' => e = .returned (.int .i64 E) ∧ DevTo W w' b F D' := fun W hW => by rw [hE, hD']; exact HW.out k Dk F W hW hok hl
        have c0 : ∀ w', Ext F wr w' → w'.cell? ⟨q, 0, none⟩ = some (.pointer (some ⟨b, 0, none⟩)) := fun w' hx => hx.cell hqF s0
        have c1 : ∀ w', Ext F wr w' → w'.cell? ⟨q, 1, none⟩ = some (.int .i64 t) := fun w' hx => hx.cell hqF s1
        have d0 : ∀ w', Ext F wr w' → w'.cell? ⟨hb, 0, none⟩ = some (.int .i64 x) := fun w' hx => hx.cell hbF b0
        have d1 : ∀ w', Ext F wr w' → w'.cell? ⟨hb, 1, none⟩ = some (.int .i64 v) := fun w' hx => hx.cell hbF b1
        have d2 : ∀ w', Ext F wr w' → w'.cell? ⟨hb, 2, none⟩ = some (.int .i64 fi) := fun w' hx => hx.cell hbF b2
        have d3 : ∀ w', Ext F wr w' → w'.cell? ⟨hb, 3, none⟩ = some (.int .i64 ba) := fun w' hx => hx.cell hbF b3
        clear HE HY HL hp hDk HW hE hD' hF1 hl1 ho1 hsm hl
        go_wp2_with fail
        refine wp_region_plan2 F [55, 56, 57, 58, 59, 60, 61, 62, 63, 64, 65, 66, 67, 68, 69, 70, 71, 72, 73, 74, 75, 76, 77, 6] [19, 20, 21, 22, 23] (hpΦ q b hb k wr.heap.size t x v fi ba) (hpC b wr.heap.size F Dk D' E t x T) (by kernel_rfl) (by kernel_rfl) (by kernel_rfl)
          (fun n v' F' w1 w2 h hx hv => hpΦ_keep F q b hb k wr.heap.size t x v fi ba hFl n v' F' w1 w2 h hx hv) (fun s g O w1 w2 h hx => hpC_keep b wr.heap.size F Dk D' E t x T s g O w1 w2 h hx) ?_ (fun _ w' hx => ⟨rfl, hF.keep0 hx⟩) ?_ ?_
        · intro s g g' O w1 h hg
          have e74 : g 74 = g' 74 := hg 19 rfl
          have e75 : g 75 = g' 75 := hg 20 rfl
          have e76 : g 76 = g' 76 := hg 21 rfl
          have e77 : g 77 = g' 77 := hg 22 rfl
          have e6 : g 6 = g' 6 := hg 23 rfl
          unfold hpC at h ⊢
          rw [← e74, ← e75, ← e76, ← e77, ← e6]
          exact h
        · refine ⟨⟨fun _ => ?f0, fun h => by cases h⟩, ⟨fun _ => ?f1, fun h => by cases h⟩, ⟨fun _ => ?f2, fun h => by cases h⟩, ⟨fun _ => ?f3, fun h => by cases h⟩, ⟨fun _ => ?f4, fun h => by cases h⟩, ⟨fun _ => ?f5, fun h => by cases h⟩, ⟨fun _ => ?f6, fun h => by cases h⟩, ⟨fun _ => ?f7, fun h => by cases h⟩, ⟨fun _ => ?f8, fun h => by cases h⟩, ⟨fun _ => ?f9, fun h => by cases h⟩, ⟨fun _ => ?f10, fun h => by cases h⟩, ⟨fun _ => ?f11, fun h => by cases h⟩, ⟨fun _ => ?f12, fun h => by cases h⟩, ⟨fun _ => ?f13, fun h => by cases h⟩, ⟨fun _ => ?f14, fun h => by cases h⟩, ⟨fun _ => ?f15, fun h => by cases h⟩, ⟨fun _ => ?f16, fun h => by cases h⟩, ⟨fun _ => ?f17, fun h => by cases h⟩, ⟨fun _ => ?f18, fun h => by cases h⟩, ⟨fun h => (by cases h), fun _ => ?f19⟩, ⟨fun h => (by cases h), fun _ => ?f20⟩, ⟨fun h => (by cases h), fun _ => ?f21⟩, ⟨fun h => (by cases h), fun _ => ?f22⟩, ⟨fun h => (by cases h), fun _ => ?f23⟩, trivial⟩
          case f0 =>
            intro g w' hx hd
            generalize hA : mkAct _ _ g = A
            have h0 : A.tmps[0]?.getD undef = .pointer (some ⟨q, 0, none⟩) := by rw [← hA]; exact mkAct_out2 _ _ _ _ _ rfl rfl
            refine step_val (v := .pointer (some ⟨q, 0, none⟩)) (w' := w') ?_ ⟨_, rfl, Ext.refl _ _, rfl, by have := hx.size; simp [vblocks]; omega⟩
            simp [execOp, h0, Result.andThen, go_sem]
          case f1 =>
            intro g w' hx hd
            have e55 : g 55 = .pointer (some ⟨q, 0, none⟩) := hd ⟨0, .data⟩ (by simp) rfl rfl
            generalize hA : mkAct _ _ g = A
            have h55 : A.tmps[55]?.getD undef = .pointer (some ⟨q, 0, none⟩) := by rw [← hA, mkAct_in2 _ _ _ _ rfl rfl]; exact e55
            refine step_val (v := .pointer (some ⟨q, 0, none⟩)) (w' := w') ?_ ⟨_, rfl, Ext.refl _ _, rfl, by have := hx.size; simp [vblocks]; omega⟩
            simp [execOp, h55, Result.andThen, go_sem]
          case f2 =>
            intro g w' hx hd
            have e56 : g 56 = .pointer (some ⟨q, 0, none⟩) := hd ⟨1, .data⟩ (by simp) rfl rfl
            generalize hA : mkAct _ _ g = A
            have h56 : A.tmps[56]?.getD undef = .pointer (some ⟨q, 0, none⟩) := by rw [← hA, mkAct_in2 _ _ _ _ rfl rfl]; exact e56
            refine step_val (v := .pointer (some ⟨q, 0, none⟩)) (w' := w') ?_ ⟨_, rfl, Ext.refl _ _, rfl, by have := hx.size; simp [vblocks]; omega⟩
            simp [execOp, h56, Result.andThen, go_sem]
          case f3 =>
            intro g w' hx hd
            have e57 : g 57 = .pointer (some ⟨q, 0, none⟩) := hd ⟨2, .data⟩ (by simp) rfl rfl
            generalize hA : mkAct _ _ g = A
            have h57 : A.tmps[57]?.getD undef = .pointer (some ⟨q, 0, none⟩) := by rw [← hA, mkAct_in2 _ _ _ _ rfl rfl]; exact e57
            have c := c0 w' hx
            refine step_val (v := .pointer (some ⟨b, 0, none⟩)) (w' := w') ?_ ⟨_, rfl, Ext.refl _ _, rfl, by have := hx.size; simp [vblocks]; omega⟩
            simp [execOp, h57, c, Result.andThen, go_sem]
          case f4 =>
            intro g w' hx hd
            generalize hA : mkAct _ _ g = A
            have h5 : A.tmps[5]?.getD undef = .int .i64 k := by rw [← hA]; exact mkAct_out2 _ _ _ _ _ rfl rfl
            refine step_val (v := .int .i64 k) (w' := w') ?_ ⟨_, rfl, Ext.refl _ _, rfl, by simp [vblocks]⟩
            simp [execOp, h5, Result.andThen, go_sem]
          case f5 =>
            intro g w' hx hd
            generalize hA : mkAct _ _ g = A
            have h0 : A.tmps[0]?.getD undef = .pointer (some ⟨q, 0, none⟩) := by rw [← hA]; exact mkAct_out2 _ _ _ _ _ rfl rfl
            refine step_val (v := .pointer (some ⟨q, 0, none⟩)) (w' := w') ?_ ⟨_, rfl, Ext.refl _ _, rfl, by have := hx.size; simp [vblocks]; omega⟩
            simp [execOp, h0, Result.andThen, go_sem]
          case f6 =>
            intro g w' hx hd
            have e60 : g 60 = .pointer (some ⟨q, 0, none⟩) := hd ⟨5, .data⟩ (by simp) rfl rfl
            generalize hA : mkAct _ _ g = A
            have h60 : A.tmps[60]?.getD undef = .pointer (some ⟨q, 0, none⟩) := by rw [← hA, mkAct_in2 _ _ _ _ rfl rfl]; exact e60
            refine step_val (v := .pointer (some ⟨q, 0, none⟩)) (w' := w') ?_ ⟨_, rfl, Ext.refl _ _, rfl, by have := hx.size; simp [vblocks]; omega⟩
            simp [execOp, h60, Result.andThen, go_sem]
          case f7 =>
            intro g w' hx hd
            have e61 : g 61 = .pointer (some ⟨q, 0, none⟩) := hd ⟨6, .data⟩ (by simp) rfl rfl
            generalize hA : mkAct _ _ g = A
            have h61 : A.tmps[61]?.getD undef = .pointer (some ⟨q, 0, none⟩) := by rw [← hA, mkAct_in2 _ _ _ _ rfl rfl]; exact e61
            refine step_val (v := .pointer (some ⟨q, 1, none⟩)) (w' := w') ?_ ⟨_, rfl, Ext.refl _ _, rfl, by have := hx.size; simp [vblocks]; omega⟩
            simp [execOp, h61, Result.andThen, go_sem]
          case f8 =>
            intro g w' hx hd
            have e62 : g 62 = .pointer (some ⟨q, 1, none⟩) := hd ⟨7, .data⟩ (by simp) rfl rfl
            generalize hA : mkAct _ _ g = A
            have h62 : A.tmps[62]?.getD undef = .pointer (some ⟨q, 1, none⟩) := by rw [← hA, mkAct_in2 _ _ _ _ rfl rfl]; exact e62
            have c := c1 w' hx
            refine step_val (v := .int .i64 t) (w' := w') ?_ ⟨_, rfl, Ext.refl _ _, rfl, by simp [vblocks]⟩
            simp [execOp, h62, c, Result.andThen, go_sem]
          case f9 =>
            intro g w' hx hd
            have e63 : g 63 = .int .i64 t := hd ⟨8, .data⟩ (by simp) rfl rfl
            generalize hA : mkAct _ _ g = A
            have h63 : A.tmps[63]?.getD undef = .int .i64 t := by rw [← hA, mkAct_in2 _ _ _ _ rfl rfl]; exact e63
            refine step_val (v := .int .i64 (t + 1)) (w' := w') ?_ ⟨_, rfl, Ext.refl _ _, rfl, by simp [vblocks]⟩
            simp [execOp, h63, Result.andThen, go_sem]
            exact IntWalk.i64_in _ ⟨by omega, by omega⟩
          case f10 =>
            intro g w' hx hd
            generalize hA : mkAct _ _ g = A
            have h3 : A.tmps[3]?.getD undef = .pointer (some ⟨hb, 0, none⟩) := by rw [← hA]; exact mkAct_out2 _ _ _ _ _ rfl rfl
            refine step_val (v := .pointer (some ⟨hb, 0, none⟩)) (w' := w') ?_ ⟨_, rfl, Ext.refl _ _, rfl, by have := hx.size; simp [vblocks]; omega⟩
            simp [execOp, h3, Result.andThen, go_sem]
          case f11 =>
            intro g w' hx hd
            have e65 : g 65 = .pointer (some ⟨hb, 0, none⟩) := hd ⟨10, .data⟩ (by simp) rfl rfl
            generalize hA : mkAct _ _ g = A
            have h65 : A.tmps[65]?.getD undef = .pointer (some ⟨hb, 0, none⟩) := by rw [← hA, mkAct_in2 _ _ _ _ rfl rfl]; exact e65
            have c := d0 w' hx
            refine step_val (v := .int .i64 x) (w' := w') ?_ ⟨_, rfl, Ext.refl _ _, rfl, by simp [vblocks]⟩
            simp [execOp, h65, c, Result.andThen, go_sem]
          case f12 =>
            intro g w' hx hd
            generalize hA : mkAct _ _ g = A
            have h3 : A.tmps[3]?.getD undef = .pointer (some ⟨hb, 0, none⟩) := by rw [← hA]; exact mkAct_out2 _ _ _ _ _ rfl rfl
            refine step_val (v := .pointer (some ⟨hb, 1, none⟩)) (w' := w') ?_ ⟨_, rfl, Ext.refl _ _, rfl, by have := hx.size; simp [vblocks]; omega⟩
            simp [execOp, h3, Result.andThen, go_sem]
          case f13 =>
            intro g w' hx hd
            have e67 : g 67 = .pointer (some ⟨hb, 1, none⟩) := hd ⟨12, .data⟩ (by simp) rfl rfl
            generalize hA : mkAct _ _ g = A
            have h67 : A.tmps[67]?.getD undef = .pointer (some ⟨hb, 1, none⟩) := by rw [← hA, mkAct_in2 _ _ _ _ rfl rfl]; exact e67
            have c := d1 w' hx
            refine step_val (v := .int .i64 v) (w' := w') ?_ ⟨_, rfl, Ext.refl _ _, rfl, by simp [vblocks]⟩
            simp [execOp, h67, c, Result.andThen, go_sem]
          case f14 =>
            intro g w' hx hd
            generalize hA : mkAct _ _ g = A
            have h3 : A.tmps[3]?.getD undef = .pointer (some ⟨hb, 0, none⟩) := by rw [← hA]; exact mkAct_out2 _ _ _ _ _ rfl rfl
            refine step_val (v := .pointer (some ⟨hb, 2, none⟩)) (w' := w') ?_ ⟨_, rfl, Ext.refl _ _, rfl, by have := hx.size; simp [vblocks]; omega⟩
            simp [execOp, h3, Result.andThen, go_sem]
          case f15 =>
            intro g w' hx hd
            have e69 : g 69 = .pointer (some ⟨hb, 2, none⟩) := hd ⟨14, .data⟩ (by simp) rfl rfl
            generalize hA : mkAct _ _ g = A
            have h69 : A.tmps[69]?.getD undef = .pointer (some ⟨hb, 2, none⟩) := by rw [← hA, mkAct_in2 _ _ _ _ rfl rfl]; exact e69
            have c := d2 w' hx
            refine step_val (v := .int .i64 fi) (w' := w') ?_ ⟨_, rfl, Ext.refl _ _, rfl, by simp [vblocks]⟩
            simp [execOp, h69, c, Result.andThen, go_sem]
          case f16 =>
            intro g w' hx hd
            generalize hA : mkAct _ _ g = A
            have h3 : A.tmps[3]?.getD undef = .pointer (some ⟨hb, 0, none⟩) := by rw [← hA]; exact mkAct_out2 _ _ _ _ _ rfl rfl
            refine step_val (v := .pointer (some ⟨hb, 3, none⟩)) (w' := w') ?_ ⟨_, rfl, Ext.refl _ _, rfl, by have := hx.size; simp [vblocks]; omega⟩
            simp [execOp, h3, Result.andThen, go_sem]
          case f17 =>
            intro g w' hx hd
            have e71 : g 71 = .pointer (some ⟨hb, 3, none⟩) := hd ⟨16, .data⟩ (by simp) rfl rfl
            generalize hA : mkAct _ _ g = A
            have h71 : A.tmps[71]?.getD undef = .pointer (some ⟨hb, 3, none⟩) := by rw [← hA, mkAct_in2 _ _ _ _ rfl rfl]; exact e71
            have c := d3 w' hx
            refine step_val (v := .int .i64 ba) (w' := w') ?_ ⟨_, rfl, Ext.refl _ _, rfl, by simp [vblocks]⟩
            simp [execOp, h71, c, Result.andThen, go_sem]
          case f18 =>
            intro g w' hx hd
            have e68 : g 68 = .int .i64 v := hd ⟨13, .data⟩ (by simp) rfl rfl
            have e70 : g 70 = .int .i64 fi := hd ⟨15, .data⟩ (by simp) rfl rfl
            have e72 : g 72 = .int .i64 ba := hd ⟨17, .data⟩ (by simp) rfl rfl
            generalize hA : mkAct _ _ g = A
            have h68 : A.tmps[68]?.getD undef = .int .i64 v := by rw [← hA, mkAct_in2 _ _ _ _ rfl rfl]; exact e68
            have h70 : A.tmps[70]?.getD undef = .int .i64 fi := by rw [← hA, mkAct_in2 _ _ _ _ rfl rfl]; exact e70
            have h72 : A.tmps[72]?.getD undef = .int .i64 ba := by rw [← hA, mkAct_in2 _ _ _ _ rfl rfl]; exact e72
            refine step_val (v := .slice (some ⟨w'.heap.size, 0, none⟩) 3 3) (w' := w'.alloc (.cells #[.int .i64 v, .int .i64 fi, .int .i64 ba] 3)) ?_ ⟨_, rfl, (Ext.refl _ _).alloc _, ⟨w'.heap.size, hx.size, rfl, Rd.litg #[.int .i64 v, .int .i64 fi, .int .i64 ba] 3 1 3 rfl (by unfold maxLen; omega) rfl⟩, by simp [vblocks]⟩
            simp [execOp, h68, h70, h72, Result.andThen, go_sem]
          case f19 =>
            intro s g O w' hs hx hd hsp hC hO
            rcases s with _ | _ | _ | _ | _ | s <;> simp at hs
            obtain ⟨rfl, hD⟩ := hC
            obtain ⟨p, hp, e73, hr⟩ := hd ⟨18, .data⟩ (by simp) rfl rfl
            have e73' : g 73 = .slice (some ⟨p, 0, none⟩) 3 3 := e73
            rw [show g (slotOf _ 18) = g 73 from rfl, e73'] at hr
            generalize hA : mkAct _ _ g = A
            have h73 : A.tmps[73]?.getD undef = .slice (some ⟨p, 0, none⟩) 3 3 := by rw [← hA, mkAct_in2 _ _ _ _ rfl rfl]; exact e73'
            refine chain_k2 (Cn := fun v O' w'' => hpC b wr.heap.size F Dk D' E t x T 1 (updG g 74 v) O' w'') (fun K hK => ?_)
            go_simp
            refine (num_any (.slice none 0 0) [] _ 3 3 [v, fi, ba] w' (by omega) (by simp) (OwnB.nil _) hr (by simp [vblocks])).mono ?_
            rintro e w2 ⟨v', rfl, ho, hx2, hv⟩
            have hx2' : Ext [] w' w2 := hx2
            rw [← HT.out] at ho
            refine hK v' (vblocks v') w2 (hx2'.mono (by simp)) ⟨ho, fun z hz => hz, hD.keep0 hx2'⟩ (fun z hz => ⟨?_, ho.lt z hz⟩)
            rcases hv z hz with h | h
            · simp [vblocks] at h
            · exact Or.inr h
          case f20 =>
            intro s g O w' hs hx hd hsp hC hO
            rcases s with _ | _ | _ | _ | _ | s <;> simp at hs
            obtain ⟨ho, hvO, hD⟩ := hC
            generalize hA : mkAct _ _ g = A
            have h74 : A.tmps[74]?.getD undef = g 74 := by rw [← hA, mkAct_in2 _ _ _ _ rfl rfl]
            have hst := ho.str
            refine chain_k2 (Cn := fun v O' w'' => hpC b wr.heap.size F Dk D' E t x T 2 (updG g 75 v) O' w'') (fun K hK => ?_)
            obtain ⟨v0, hv0⟩ : ∃ v, v = g 74 := ⟨_, rfl⟩
            rw [← hv0] at h74 hst
            clear hv0 hsp ho hvO
            go_simp
            exact hK (str T) [] w' (Ext.refl _ _) ⟨rfl, hD⟩ (by simp)
          case f21 =>
            intro s g O w' hs hx hd hsp hC hO
            rcases s with _ | _ | _ | _ | _ | s <;> simp at hs
            obtain ⟨e75, hD⟩ := hC
            have e64 : g 64 = .int .i64 (t + 1) := hd ⟨9, .data⟩ (by simp) rfl rfl
            have e66 : g 66 = .int .i64 x := hd ⟨11, .data⟩ (by simp) rfl rfl
            generalize hA : mkAct _ _ g = A
            have h64 : A.tmps[64]?.getD undef = .int .i64 (t + 1) := by rw [← hA, mkAct_in2 _ _ _ _ rfl rfl]; exact e64
            have h66 : A.tmps[66]?.getD undef = .int .i64 x := by rw [← hA, mkAct_in2 _ _ _ _ rfl rfl]; exact e66
            have h75 : A.tmps[75]?.getD undef = str T := by rw [← hA, mkAct_in2 _ _ _ _ rfl rfl]; exact e75
            refine chain_k2 (Cn := fun v O' w'' => hpC b wr.heap.size F Dk D' E t x T 3 (updG g 76 v) O' w'') (fun K hK => ?_)
            clear hsp e64 e66 e75
            go_simp
            exact hK (.agg #[.int .i64 1, .int .i64 (t + 1), .int .i64 x, str T]) [] w' (Ext.refl _ _) ⟨rfl, hD⟩ (by simp)
          case f22 =>
            intro s g O w' hs hx hd hsp hC hO
            rcases s with _ | _ | _ | _ | _ | s <;> simp at hs
            obtain ⟨e76, hD⟩ := hC
            have e58 : g 58 = .pointer (some ⟨b, 0, none⟩) := hd ⟨3, .data⟩ (by simp) rfl rfl
            have e59 : g 59 = .int .i64 k := hd ⟨4, .data⟩ (by simp) rfl rfl
            generalize hA : mkAct _ _ g = A
            have h58 : A.tmps[58]?.getD undef = .pointer (some ⟨b, 0, none⟩) := by rw [← hA, mkAct_in2 _ _ _ _ rfl rfl]; exact e58
            have h59 : A.tmps[59]?.getD undef = .int .i64 k := by rw [← hA, mkAct_in2 _ _ _ _ rfl rfl]; exact e59
            have h76 : A.tmps[76]?.getD undef = .agg #[.int .i64 1, .int .i64 (t + 1), .int .i64 x, str T] := by rw [← hA, mkAct_in2 _ _ _ _ rfl rfl]; exact e76
            refine chain_k2 (Cn := fun v O' w'' => hpC b wr.heap.size F Dk D' E t x T 4 (updG g 77 v) O' w'') (fun K hK => ?_)
            clear hsp e58 e59 e76
            go_simp
            refine (cW w' hD).mono ?_
            rintro e w2 ⟨rfl, hx2, F', hD', hF'⟩
            have hxs := hx.size
            exact hK (.int .i64 E) [] w2 (hx2.mono (fun z hz => .inl (List.mem_append_left _ hz))) ⟨rfl, F', hD', fun z hz => (hF' z hz).imp_right (fun h => by omega)⟩ (by simp)
          case f23 =>
            intro s g O w' hs hx hd hsp hC hO
            rcases s with _ | _ | _ | _ | _ | s <;> simp at hs
            obtain ⟨e77, hD⟩ := hC
            generalize hA : mkAct _ _ g = A
            have h77 : A.tmps[77]?.getD undef = .int .i64 E := by rw [← hA, mkAct_in2 _ _ _ _ rfl rfl]; exact e77
            refine chain_k2 (Cn := fun v O' w'' => hpC b wr.heap.size F Dk D' E t x T 5 (updG g 6 v) O' w'') (fun K hK => ?_)
            clear hsp e77
            go_simp
            exact hK (.int .i64 E) [] w' (Ext.refl _ _) ⟨rfl, hD⟩ (by simp)
        · intro g O w' hx hC hd
          obtain ⟨e6, F', hD', hF'⟩ := hC
          have hto : DevTo wr w' b F D' := ⟨hx, F', hD', hF'⟩
          unfold mkAct
          simp only [List.zipIdx_cons, List.zipIdx_nil, List.map_cons, List.map_nil, Nat.zero_add, Nat.reduceAdd, List.contains_cons, List.contains_nil, Nat.reduceBEq, Bool.or_false, Bool.or_true, ↓reduceIte, Bool.false_eq_true]
          rw [e6]
          clear hd e6 O
          obtain ⟨hd', hk'⟩ := DevO.to (D := Dk) (O := hb :: O) hto hlF hoF hxd (by rw [HDD.out]; exact hok.slot _ _)
          have hs' := hs.keep hx hqF
          have hB' := hB.keep hx hbF
          have hkk' : Kept O' w w' := hkk.trans (hk'.less hO2)
          have e0 := hs'.c 0
          have eq0 := Blk.lt hs'
          simp only [List.getElem?_cons_zero] at e0
          clear hx hto hD' hF' hs hB hkk hFl hlF hoF hqF hbF hbl cW c0 c1 d0 d1 d2 d3 s0 s1 b0 b1 b2 b3 hF hxd hk' hqr hbr
          by_cases hE0 : E = 0
          · have hph := phE_of0 (k := k) (r := r) (D := Dk) (by rw [← HEE.out]; exact hE0)
            rw [← HDD.out] at hph
            have HPE : Hid (phE k r Dk = turnE D') := hph.1
            have HPD : Hid (phK r D (k + 1) = flushD D') := by show _ = _; rw [HK.out]; exact hph.2
            subst hE0
            clear hph
            go_wp2_with fail
            refine (flush_o b D' w0 w' (hb :: O) hd').mono ?_
            rintro e w5 ⟨rfl, hd5, hk5⟩
            have hs5 := hs'.kept hk5 (by simp [hq])
            have hB5 : Blk w5 hb 75 [.int .i64 x, .int .i64 v, .int .i64 fi, .int .i64 ba] := hk5 hb (by simp) _ hB'
            have hkk5 : Kept O' w w5 := hkk'.trans (hk5.less hO2)
            rw [← HPD.out] at hd5
            obtain ⟨te, hte⟩ : ∃ z, z = turnE D' := ⟨_, rfl⟩
            rw [← hte] at HPE ⊢
            clear hte hd' hs' hB' hkk' hk5 e0
            by_cases ht0 : te = 0
            · subst ht0
              have HP2 : Hid (∀ j : Nat, j < k + 1 → phE j r (phK r D j) = 0) := by
                intro j hj
                by_cases hjk : j < k
                · exact HP.out j hjk
                · obtain rfl : j = k := by omega
                  rw [← hDk2.out]; exact HPE.out
              clear HPE HP HE2
              go_wp2
              go_roundw
              case rel => exact ⟨k + 1, by omega, by go_num, hd5, hs5, hB5, hkk5, HP2.out⟩
              case measure => simp [intOf]; omega
            · have HQ : Hid (∀ w', DevO w0 w' b (phK r D (k + 1)) O → StAt w' q b t h0 → Kept O' w w' → HPutPost q b t h0 ⟨x, v, fi, ba⟩ D O O' w0 w (.returned (.int .i64 te)) w') :=
                fun w' => HE2.out (by rw [HPE.out]; exact ht0) w' te HPE.out
              clear HPE HP HE2
              go_wp2
              go_ret
              exact HQ.out _ (hd5.less (fun z hz => by simp [hz])) hs5 hkk5
          · have hph := phE_of (k := k) (r := r) (D := Dk) HEE.out.symm hE0
            rw [← HDD.out] at hph
            have HPD : Hid (phK r D (k + 1) = D') := by show _ = _; rw [HK.out]; exact hph.2
            have HQ : Hid (∀ w', DevO w0 w' b (phK r D (k + 1)) O → StAt w' q b t h0 → Kept O' w w' → HPutPost q b t h0 ⟨x, v, fi, ba⟩ D O O' w0 w (.returned (.int .i64 E)) w') :=
              fun w' => HE2.out (by rw [hph.1]; exact hE0) w' E hph.1
            rw [← HPD.out] at hd'
            clear hph HE2 HP e0 hB'
            go_wp2
            go_ret
            exact HQ.out _ (hd'.less (fun z hz => by simp [hz])) hs' hkk'
      · obtain rfl : k = 2 := by omega
        have hQ := HY.out hp
        have HQ : Hid (∀ w', DevO w0 w' b (phK r D 2) O → StAt w' q b (t + 1) ⟨x, v, fi, ba⟩ → Kept O' w w' → HPutPost q b t h0 ⟨x, v, fi, ba⟩ D O O' w0 w (.returned (.int .i64 0)) w') := hQ
        have sfz := Blk.f hs
        have s2 := hs.c 2
        have s3 := hs.c 3
        have s4 := hs.c 4
        have s5 := hs.c 5
        simp only [List.getElem?_cons_zero, List.getElem?_cons_succ] at s2 s3 s4 s5
        clear HE HY HL HW HT hp hQ
        go_wp2
        go_region
        all_goals (
          go_wp2
          go_ret
          have hxq : Ext [q] wr (((((wr.setCell ⟨q, 2, none⟩ (.int .i64 x)).setCell ⟨q, 3, none⟩ (.int .i64 v)).setCell ⟨q, 4, none⟩ (.int .i64 fi)).setCell ⟨q, 5, none⟩ (.int .i64 ba)).setCell ⟨q, 1, none⟩ (.int .i64 (t + 1))).drew := (ext_set5 (Ext.refl _ _) (.inl (by simp)) _ _ _ _ _).drew
          refine HQ.out _ ((hd.other hxq (by simp [hq]) hq0).less (fun z hz => by simp [hz])) ?_ (hkk.trans ?_)
          · exact StAt.keep (F := []) (hs.set _ _ _ _ _) ((Ext.refl _ _).drew) (by simp)
          · intro z hz o ho
            exact hxq.heap (by simp [(hO z hz).2]) ho)
  · have HN : Hid (∀ w', Ext [] w w' → HPutPost q b t h0 h D O O' w0 w (.returned (.int .i64 1)) w') := by
      intro w' hx
      obtain ⟨e1, e2⟩ := putH_no (D := D) hm
      exact hPut_err e1 (by decide) e2 (hd.keep hx) (hs.keep hx (by simp)) (Kept.of hx)
    obtain ⟨x, v, fi, ba⟩ := h
    have hcs : x < 0 ∨ (0 ≤ x ∧ v < 0) ∨ (0 ≤ x ∧ 0 ≤ v ∧ 7 < v) ∨ (0 ≤ x ∧ 0 ≤ v ∧ v ≤ 7 ∧ fi < 1) ∨ (0 ≤ x ∧ 0 ≤ v ∧ v ≤ 7 ∧ 1 ≤ fi ∧ ba < 0) ∨ (0 ≤ x ∧ 0 ≤ v ∧ v ≤ 7 ∧ 1 ≤ fi ∧ 0 ≤ ba ∧ 281474976710655 < max x (max fi ba)) ∨ (0 ≤ x ∧ 0 ≤ v ∧ v ≤ 7 ∧ 1 ≤ fi ∧ 0 ≤ ba ∧ max x (max fi ba) ≤ 281474976710655 ∧ 281474976710655 ≤ t) := by
      unfold hdMay Hd.right at hm
      simp only at hm
      omega
    unfold Hd.val
    simp only
    have hxz : ∀ a c d e : Value, Ext [] w (w.alloc (.cells #[a, c, d, e] 75)) := fun a c d e => (Ext.refl _ _).alloc _
    have HNx : Hid (∀ a c d e : Value, HPutPost q b t h0 ⟨x, v, fi, ba⟩ D O O' w0 w (.returned (.int .i64 1)) (w.alloc (.cells #[a, c, d, e] 75))) := fun a c d e => HN.out _ (hxz a c d e)
    clear hm HN hd hs hxz
    rcases hcs with h | ⟨g1, h⟩ | ⟨g1, g2, h⟩ | ⟨g1, g2, g3, h⟩ | ⟨g1, g2, g3, g4, h⟩ | ⟨g1, g2, g3, g4, g5, h⟩ | ⟨g1, g2, g3, g4, g5, g6, h⟩
    all_goals (
      go_enter Try.func45, Try.ntmps45
      go_wp2
      go_ret
      exact HNx.out _ _ _ _)
theorem hput_nil (h : Hd) (w : World) : Calls Try.prog 45 #[.pointer none, h.val] w fun e w' => e = .returned (.int .i64 1) ∧ Ext [] w w' := by
  obtain ⟨x, v, fi, ba⟩ := h
  unfold Hd.val
  simp only
  have hxz : ∀ a c d e : Value, Ext [] w (w.alloc (.cells #[a, c, d, e] 75)) := fun a c d e => (Ext.refl _ _).alloc _
  go_enter Try.func45, Try.ntmps45
  go_wp2
  go_ret
  exact ⟨rfl, hxz _ _ _ _⟩
end Go.Proofs.Ytpnfgkgloioddaa
