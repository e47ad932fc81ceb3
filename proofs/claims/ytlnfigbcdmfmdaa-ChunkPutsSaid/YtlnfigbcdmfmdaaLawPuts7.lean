/- ChunkPuts: the walk. (Printed by wip/gen_puts7.py.) -/
import Derived.Test.YtlnfigbcdmfmdaaChkq
import Derived.Test.YtlnfigbcdmfmdaaActs7
namespace Go.Proofs.Ytlnfigbcdmfmdaa
open Go.RowKit
set_option linter.unusedVariables false
set_option linter.unusedSimpArgs false
theorem i64_and2047 (n : Int) : bits .and .i64 n 2047 = n % 2048 := i64_mask n 2047 11 (by decide) (by decide)
attribute [local go_sem] i64_and1 i64_and3 i64_and7 i64_and15 i64_and2047

/-- A snapshot in a cell. -/
def ShotAt (w : World) (z : Nat) (x : Shot) : Prop := Blk w z 59 [.int .i64 x.i, .int .i64 x.t, str x.d]
/-- How far a snapshot may have come. -/
def Shot.le (x : Shot) (k : Nat) : Prop := x.i ≤ 8 * k ∧ x.d.length ≤ 2047
/-- The last one is there, or the one that was under way. -/
def Left7 (V : Int → Sl) (s : Sto) (l y : Shot) : Prop := (Good 5 V s l ∧ (l = y ∨ l.i < y.i)) ∨ (Good 5 V s y ∧ y.i ≠ 0)
/-- Behind the put. -/
def Mid7 (w0 w : World) (b q : Nat) (k : Nat) (more : Prop) (fs : List Int) (Lb Nb Pb : Nat) : Prop :=
  ∃ (sv : Value) (D : Dv) (s : Sto) (l y : Shot), StM w0 w q b sv D s 200 [Nb, Pb, Lb] ∧ ShotAt w Lb l ∧ ShotAt w Nb y ∧ l.le (k + 1) ∧ y.le (k + 1) ∧
    ((more ∧ ∃ V, Fine0 D 200 V ∧ Good 5 V s l) ∨ (¬ more ∧ ∃ V s', Fine0 (crashD fs D) 200 V ∧ Left7 V s' l y))
theorem crash_o {w0 w : World} {b : Nat} {D : Dv} {O : List Nat} {a : Option Addr} {len cap : Nat} {fs : List Int} (h : DevO w0 w b D O) (hR : Rd w 1 (.slice a len cap) len (fs.map (Value.int .i64))) :
    Calls Try.prog 23 #[.pointer (some ⟨b, 0, none⟩), .slice a len cap] w fun e w' => ∃ b', e = .returned (.pointer (some ⟨b', 0, none⟩)) ∧ DevO w0 w' b' (crashD fs D) O ∧ Ext [] w w' := by
  obtain ⟨⟨F, hF, hl, ho⟩, hx, hok⟩ := h
  refine (crash_any b F D a len cap fs w hF hok hR).mono ?_
  rintro e w' ⟨b', F', rfl, hF', hl', hx'⟩
  have := hx.size
  exact ⟨b', rfl, ⟨⟨F', hF', fun k hk => by have := hl' k hk; omega, fun z hz => ⟨fun hm => by have := hl' z hm; have := (ho z hz).2; omega, Nat.lt_of_lt_of_le (ho z hz).2 hx'.size⟩⟩, hx.then0 hx', hok.crash fs⟩, hx'⟩
/-- What Put makes of it. -/
def Put7 (more : Prop) (fs : List Int) (s : Sto) (l : Ls) (x y : Shot) (X : Int × Dv × Sto) : Prop :=
  (∃ D', X = (0, D', putS s l) ∧ ((more ∧ ∃ V, Fine0 D' 200 V ∧ Good 5 V (putS s l) y) ∨ (¬ more ∧ ∃ V s', Fine0 (crashD fs D') 200 V ∧ Left7 V s' y y))) ∨
  (∃ D', X = (5, D', s) ∧ ¬ more ∧ ∃ V s', Fine0 (crashD fs D') 200 V ∧ Left7 V s' x y)
theorem Good.put7 {V : Int → Sl} {s : Sto} {x : Shot} {i t : Int} {d : List UInt8} {D D1 : Dv} {m : Int} {more : Prop} (h : Good 5 V s x) (hf : Fine0 D 200 V) (hc : Calm0 D1 200 V) (he : m % 2 ≠ 1 → D1 = D) (hm : more ↔ m % 2 ≠ 1) (hi : x.i < i) (hr : (ofL i t d).right) (fs : List Int) :
    Put7 more fs s (ofL i t d) x ⟨i, t, d⟩ (putX s i t d D1) := by
  by_cases h2 : m % 2 ≠ 1
  · rw [he h2]
    obtain ⟨D', V', e, h3, h4⟩ := h.putF hf (by omega) (by omega) hi hr
    exact .inl ⟨D', e, .inl ⟨hm.2 h2, V', h3, h4⟩⟩
  · have hn : ¬ more := fun hh => h2 (hm.1 hh)
    rcases h.putC hc (by omega) (by omega) hi hr fs with ⟨D', V', e, h3, h4⟩ | ⟨D', V', e, h3, h4⟩
    · exact .inl ⟨D', e, .inr ⟨hn, V', _, h3.crash (by omega) fs, .inl ⟨h4, .inl rfl⟩⟩⟩
    · refine .inr ⟨D', e, hn, V', ?_⟩
      rcases h4 with h4 | h4
      · exact ⟨_, h3, .inl ⟨h4, .inr hi⟩⟩
      · have := h.pos
        exact ⟨_, h3, .inr ⟨h4, by show i ≠ 0; omega⟩⟩
/-- What Open finds is told apart by its index. -/
theorem Left7.yes {V : Int → Sl} {s : Sto} {l y : Shot} (h : Left7 V s l y) (ha : ¬ s.area < 0) (hi : s.list.idx = y.i) : Good 5 V s y := by
  rcases h with ⟨h, e | e⟩ | ⟨h, _⟩
  · exact e ▸ h
  · by_cases h0 : l.i = 0
    · have := (h.non h0).1; omega
    · have e2 := (h.som h0).1.list
      rw [e2] at hi
      have : l.i = y.i := hi
      omega
  · exact h
theorem Left7.no {V : Int → Sl} {s : Sto} {l y : Shot} (h : Left7 V s l y) (hn : ¬ (¬ s.area < 0 ∧ s.list.idx = y.i)) : Good 5 V s l := by
  rcases h with ⟨h, _⟩ | ⟨h, h0⟩
  · exact h
  · refine absurd ⟨?_, ?_⟩ hn
    · have := (h.som h0).1.area; omega
    · rw [(h.som h0).1.list]; rfl
set_option maxRecDepth 100000 in
set_option maxHeartbeats 25600000 in
theorem puts7_any {w0 : World} (a : Option Addr) (len cap : Nat) (al : List A7) (hR : Rd w0 5 (.slice a len cap) len (al.flatMap A7.cells)) (hok : ∀ p ∈ al, p.ok w0) :
    Calls Try.prog 8 #[.slice a len cap] w0 fun e w' => e = .returned (.bool true) ∧ Ext [] w0 w' := by
  have hl : al.length = len := by have := hR.len.2.2.2; rw [flatMap_len _ 5 a7cells_len] at this; omega
  have hlm : len ≤ 9223372036854775807 := by have := hR.len; unfold maxLen at this; omega
  have HR := Hid.of hR
  have HOk := Hid.of hok
  have HL := Hid.of hl
  clear hR hok hl
  go_enter Try.func8, Try.ntmps8
  go_wp2_with fail
  refine (head7_any w0).mono ?_
  rintro e w1 ⟨rfl, hx1⟩
  by_cases h12 : 12 < (len : Int)
  · go_wp2
    go_ret
    exact ⟨rfl, hx1⟩
  · have HX1 := Hid.of hx1
    clear hx1
    go_wp2_with fail
    refine (new_n 200 w0 w1 HX1.out).mono ?_
    rintro e w2 ⟨b, rfl, hd, hx2⟩
    have hf := Fine0.new 200 (by omega) (by omega)
    have HF := Hid.of hf
    have HD := Hid.of hd.o
    clear hd hf hx2 HX1
    go_wp2_with fail
    refine (open7_o HD.out HF.out.fine 5 (by omega) (by omega)).mono ?_
    rintro e w3 ⟨q, sv, rfl, hs, hx3, hq⟩
    have hg := Good.new 5
    rw [hg.open] at hs
    obtain ⟨Lb, hLb⟩ : ∃ z, z = w3.heap.size := ⟨_, rfl⟩
    obtain ⟨w4, hw4⟩ : ∃ w, w = w3.alloc (.cells #[.int .i64 0, .int .i64 0, .string ⟨#[]⟩] 59) := ⟨_, rfl⟩
    have hx4 : Ext [] w3 w4 := by rw [hw4]; exact (Ext.refl _ _).alloc _
    have HB4 : Hid (ShotAt w4 Lb ⟨0, 0, []⟩) := Hid.of (by rw [hw4]; exact Blk.newg hLb.symm)
    have HS4 : Hid (StM w0 w4 q b sv (newD 200) ⟨5, -1, Ls.zero⟩ 200 [Lb]) := Hid.of (hs.add hx4 Lb (by omega) (Blk.lt HB4.out))
    have HG4 := Hid.of hg
    have HLb : Hid (w0.heap.size ≤ Lb) := Hid.of (by have := hs.dev.ext.size; omega)
    clear hs hg hx3 hq HD hx4
    go_upto_region 10 with fail
    rw [← hw4, ← hLb]
    clear hw4 hLb
    go_upto_region 11 with fail
    go_loopw [3, 4, 29] (fun u3 u4 u29 wr => ∃ (k b q : Nat) (sv : Value) (D : Dv) (V : Int → Sl) (s : Sto) (x : Shot), u3 = .pointer (some ⟨b, 0, none⟩) ∧ u4 = .pointer (some ⟨q, 0, none⟩) ∧ u29 = .int .i64 (k : Int) ∧ k ≤ len ∧ Hid (StM w0 wr q b sv D s 200 [Lb]) ∧ Hid (Fine0 D 200 V) ∧ Hid (Good 5 V s x) ∧ Hid (ShotAt wr Lb x) ∧ Hid (x.le k)) (fun _ _ u29 _ => len - (intOf u29).toNat)
    case atStart => exact ⟨0, b, q, sv, _, _, _, _, rfl, rfl, rfl, by omega, HS4, HF, HG4, HB4, by constructor <;> simp⟩
    case round =>
      clear HS4 HF HG4 HB4
      obtain ⟨k, b, q, sv, D, V, s, x, rfl, rfl, rfl, hk, hS, hF, hG, hB, hle⟩ := hrel
      by_cases hkl : k < len
      · have hRr := HR.out.keep hS.out.dev.ext (by simp)
        obtain ⟨g, off, rfl, hgw, hc⟩ := hRr.view (by omega)
        have hje : k < al.length := by have := HL.out; omega
        have cc : ∀ i : Nat, i < 5 → wr.cell? ⟨g, off + (k * 5 + i), none⟩ = al[k].cells[i]? := fun i hi => by
          have h1 := flatMap_get A7.cells 5 a7cells_len al k i hje hi
          have h2 : al[k].cells[i]? = some (al[k].cells[i]'(by rw [a7cells_len]; exact hi)) := List.getElem?_eq_getElem _
          rw [h2] at h1 ⊢
          exact hc _ _ h1
        have hokj := HOk.out al[k] (List.getElem_mem _)
        obtain ⟨y, hy⟩ : ∃ y, y = al[k] := ⟨_, rfl⟩
        rw [← hy] at cc hokj
        obtain ⟨xk, xn, xt, xf, fa, fl, fc⟩ := y
        obtain ⟨⟨hk1, hn1, ht1, hf1⟩, fs, hfs⟩ := hokj
        simp only at hk1 hn1 ht1 hf1 hfs
        have c0 : wr.cell? ⟨g, off + k * 5, none⟩ = some (.int .i64 xk) := cc 0 (by omega)
        have c1 : wr.cell? ⟨g, off + (k * 5 + 1), none⟩ = some (.int .i64 xn) := cc 1 (by omega)
        have c2 : wr.cell? ⟨g, off + (k * 5 + 2), none⟩ = some (.int .i64 xt) := cc 2 (by omega)
        have c3 : wr.cell? ⟨g, off + (k * 5 + 3), none⟩ = some (.int .i64 xf) := cc 3 (by omega)
        have c4 : wr.cell? ⟨g, off + (k * 5 + 4), none⟩ = some (.slice fa fl fc) := cc 4 (by omega)
        rw [← Nat.add_assoc] at c1 c2 c3 c4
        obtain ⟨Pb, hPb⟩ : ∃ z, z = wr.heap.size := ⟨_, rfl⟩
        obtain ⟨w5, hw5⟩ : ∃ w, w = wr.alloc (.cells #[.int .i64 xk, .int .i64 xn, .int .i64 xt, .int .i64 xf, .slice fa fl fc] 72) := ⟨_, rfl⟩
        have hx5 : Ext [] wr w5 := by rw [hw5]; exact (Ext.refl _ _).alloc _
        have HP5 : Hid (Blk w5 Pb 72 [.int .i64 xk, .int .i64 xn, .int .i64 xt, .int .i64 xf, .slice fa fl fc]) := Hid.of (by rw [hw5]; exact Blk.newg hPb.symm)
        have HS5 : Hid (StM w0 w5 q b sv D s 200 [Pb, Lb]) := Hid.of (hS.out.add hx5 Pb (by omega) (Blk.lt HP5.out))
        have HB5 : Hid (ShotAt w5 Lb x) := Hid.of (Blk.keep hB.out hx5 (by simp))
        have HFs : Hid (Rd w0 1 (.slice fa fl fc) fl (fs.map (Value.int .i64))) := Hid.of hfs
        have HLP : Hid (Lb < Pb) := Hid.of (by rw [hPb]; exact Blk.lt hB.out)
        have HPw : Hid (w0.heap.size ≤ Pb) := Hid.of (by have := hS.out.dev.ext.size; omega)
        have hfl : fl ≤ 9223372036854775807 := by have := hfs.len; unfold maxLen at this; omega
        clear hy cc hc hgw hRr hx5 hfs hje hS hB
        go_upto_region 13 with fail
        rw [← hw5, ← hPb]
        clear hw5 hPb c0 c1 c2 c3 c4
        have d0 := (Blk.c HP5.out 0 : w5.cell? ⟨Pb, 0, none⟩ = some (.int .i64 xk))
        have d3 := (Blk.c HP5.out 3 : w5.cell? ⟨Pb, 3, none⟩ = some (.int .i64 xf))
        have d4 := (Blk.c HP5.out 4 : w5.cell? ⟨Pb, 4, none⟩ = some (.slice fa fl fc))
        by_cases hf60 : 60 < (fl : Int)
        · have HXe := Hid.of HS5.out.dev.ext
          go_wp2
          go_ret
          exact ⟨rfl, HXe.out⟩
        go_upto_if 41 with fail
        go_cut [] from 30 to 129 (fun wx => Hid (∃ D1, StM w0 wx q b sv D1 s 200 [Pb, Lb] ∧ Calm0 D1 200 V ∧ (xf % 2 ≠ 1 → D1 = D)) ∧ Hid (Kept [Pb, Lb] w5 wx))
        case first =>
          by_cases hf2 : xf % 2 = 1
          · have hfd : decide (xf % 2 = 1) = true := decide_eq_true hf2
            go_wp2_with ((go_at_call 22; (with_reducible refine (fall_o b D (xf / 2 % 16) w0 w5 _ HS5.out.dev (by omega)).mono ?_); rintro e w6 ⟨rfl, hd6, hk6⟩; have H6 := Hid.of (HS5.out.devt hd6 hk6); clear hd6 hk6))
            go_meet
            exact ⟨⟨_, H6.out.1, hF.out.calm0.fallD _, fun h => absurd hf2 h⟩, H6.out.2⟩
          · have hfd : (xf % 2 == 1) = false := by simp [hf2]
            go_wp2
            go_meet
            exact ⟨⟨D, HS5.out, hF.out.calm0, fun _ => rfl⟩, Kept.refl _ _⟩
        case rest =>
          obtain ⟨H1, K1⟩ := hcut
          obtain ⟨D1, h1, h2, h3⟩ := H1.out
          have HS6 := Hid.of h1
          have HC6 := Hid.of h2
          have HD6 := Hid.of h3
          have HP6 := Hid.of (K1.out.blk HP5.out (by simp))
          have HB6 : Hid (ShotAt wc Lb x) := Hid.of (K1.out.blk HB5.out (by simp))
          obtain ⟨w6, hw6⟩ : ∃ w, w = wc := ⟨_, rfl⟩
          rw [← hw6] at HS6 HP6 HB6 ⊢
          clear h1 h2 h3 H1 K1 HS5 HP5 HB5 d0 d3 d4 hw6
          have e0 := (Blk.c HB6.out 0 : w6.cell? ⟨Lb, 0, none⟩ = some (.int .i64 x.i))
          have e1 := (Blk.c HB6.out 1 : w6.cell? ⟨Lb, 1, none⟩ = some (.int .i64 x.t))
          have e2 := (Blk.c HB6.out 2 : w6.cell? ⟨Lb, 2, none⟩ = some (str x.d))
          obtain ⟨Nb, hNb⟩ : ∃ z, z = w6.heap.size := ⟨_, rfl⟩
          obtain ⟨w7, hw7⟩ : ∃ w, w = w6.alloc (.cells #[.int .i64 x.i, .int .i64 x.t, str x.d] 59) := ⟨_, rfl⟩
          have hx7 : Ext [] w6 w7 := by rw [hw7]; exact (Ext.refl _ _).alloc _
          have HN7 : Hid (ShotAt w7 Nb x) := Hid.of (by rw [hw7]; exact Blk.newg hNb.symm)
          have HS7 : Hid (StM w0 w7 q b sv D1 s 200 [Nb, Pb, Lb]) := Hid.of (HS6.out.add hx7 Nb (by omega) (Blk.lt HN7.out))
          have HB7 : Hid (ShotAt w7 Lb x) := Hid.of (Blk.keep HB6.out hx7 (by simp))
          have HP7 := Hid.of (Blk.keep HP6.out hx7 (by simp))
          have HPL : Hid (Pb ≠ Lb) := Hid.of (by have := HLP.out; omega)
          have HNw : Hid (w0.heap.size ≤ Nb ∧ Lb ≠ Nb ∧ Pb ≠ Nb) := Hid.of (by have := HS6.out.dev.ext.size; have := Blk.lt HB6.out; have := Blk.lt HP6.out; omega)
          clear hx7
          go_upto_region 18 with fail
          rw [← hw7, ← hNb]
          clear hw7 hNb e0 e1 e2 HS6 HB6 HP6
          have d0 := (Blk.c HP7.out 0 : w7.cell? ⟨Pb, 0, none⟩ = some (.int .i64 xk))
          obtain ⟨more, hmore⟩ : ∃ m : Prop, m = (xk % 4 < 3 ∧ xf % 2 ≠ 1) := ⟨_, rfl⟩
          have HMore := Hid.of hmore
          clear hmore
          go_upto_if 52 with fail
          go_cut [] from 30 to 129 (fun wx => Hid (Mid7 w0 wx b q k more fs Lb Nb Pb) ∧ Hid (Kept [Pb] w7 wx))
          case first =>
            by_cases hk3 : xk % 4 < 3
            · have hkd : decide (xk % 4 < 3) = true := decide_eq_true hk3
              clear d0
              have cl := fun w' (hx : Ext [Nb] w7 w') => (Blk.c (Blk.keep HB7.out hx (by have := HNw.out; simp; omega)) 0 : w'.cell? ⟨Lb, 0, none⟩ = some (.int .i64 x.i))
              have cp : ∀ w', Ext [Nb] w7 w' → w'.cell? ⟨Pb, 1, none⟩ = some (.int .i64 xn) ∧ w'.cell? ⟨Pb, 2, none⟩ = some (.int .i64 xt) := fun w' hx => by
                have h := Blk.keep HP7.out hx (by have := HNw.out; simp; omega)
                exact ⟨Blk.c h 1, Blk.c h 2⟩
              have hxi : 0 ≤ x.i ∧ x.i ≤ 8 * k := ⟨hG.out.pos, hle.out.1⟩
              have hk12 : k ≤ 12 := by omega
              have HXi := Hid.of hxi
              go_upto_region 19 with fail
              refine wp_region_u [53, 54, 55, 56, 57, 58, 59, 60, 61, 62, 63, 64, 65, 66, 67] [13, 14, 15] (fun n => match n with | 0 => .pointer (some ⟨Lb, 0, none⟩) | 1 => .int .i64 x.i | 2 => .int .i64 (x.i + 1) | 3 => .pointer (some ⟨Pb, 2, none⟩) | 4 => .int .i64 xt | 5 => .int .i64 (xt % 8) | 6 => .int .i64 (x.i + 1 + xt % 8) | 7 => .int .i64 (k : Int) | 8 => .int .i64 (1 + (k : Int)) | 9 => .pointer (some ⟨Pb, 1, none⟩) | 10 => .int .i64 xn | 11 => .int .i64 (xn % 2048) | 12 => .int .i64 (k : Int) | _ => undef) (fun f v wx => Ext [Nb] w7 wx ∧ (f 15 = false → Blk wx Nb 59 [.int .i64 x.i, .int .i64 x.t, str x.d]) ∧ (f 13 = true → ∃ tx, v 13 = str tx ∧ tx.length ≤ 2047) ∧ (f 14 = true → ∃ tx, v 14 = .agg #[.int .i64 (x.i + 1 + xt % 8), .int .i64 (1 + (k : Int)), str tx] ∧ tx.length ≤ 2047) ∧ (f 15 = true → ∃ tx : List UInt8, tx.length ≤ 2047 ∧ Blk wx Nb 59 [.int .i64 (x.i + 1 + xt % 8), .int .i64 (1 + (k : Int)), str tx])) (by kernel_rfl) (by kernel_rfl) ?hst0_19 ?h00_19 ?hst_19 ?hend_19
              case hst0_19 =>
                rintro f v w w' ⟨hx, j1, j2, j3, j4⟩ hx2
                exact ⟨hx.then0 hx2, fun h => Blk.keep (j1 h) hx2 List.not_mem_nil, j2, j3, fun h => (by obtain ⟨ty, h1, h2⟩ := j4 h; exact ⟨ty, h1, Blk.keep h2 hx2 List.not_mem_nil⟩)⟩
              case h00_19 =>
                exact ⟨Ext.refl _ _, fun _ => HN7.out, fun h => (by cases h), fun h => (by cases h), fun h => (by cases h)⟩
              case hst_19 =>
                refine ⟨?f0_19, ?f1_19, ?f2_19, ?f3_19, ?f4_19, ?f5_19, ?f6_19, ?f7_19, ?f8_19, ?f9_19, ?f10_19, ?f11_19, ?f12_19, ?f13_19, ?f14_19, ?f15_19, trivial⟩
                case f0_19 =>
                  intro f v g w' hJ hfi hb hd
                  refine arm_u rfl ?_
                  refine op_run rfl ?_
                  generalize hA : mkAct _ _ g = A
                  have h6 : A.tmps[6]?.getD undef = .pointer (some ⟨Lb, 0, none⟩) := by rw [← hA]; exact mkAct_out2 _ _ _ _ _ rfl rfl
                  refine step_val (v := .pointer (some ⟨Lb, 0, none⟩)) (w' := w') ?_ ⟨rfl, Ext.refl _ _⟩
                  simp [execOp, h6, Result.andThen, go_sem]
                case f1_19 =>
                  intro f v g w' hJ hfi hb hd
                  refine arm_u rfl ?_
                  refine op_run rfl ?_
                  have e53 : g 53 = .pointer (some ⟨Lb, 0, none⟩) := value_u (hd ⟨0, .data⟩ (by simp) rfl) rfl rfl
                  generalize hA : mkAct _ _ g = A
                  have h53 : A.tmps[53]?.getD undef = .pointer (some ⟨Lb, 0, none⟩) := by rw [← hA, mkAct_in2 _ _ _ _ rfl rfl]; exact e53
                  have c := cl w' hJ.1
                  refine step_val (v := .int .i64 x.i) (w' := w') ?_ ⟨rfl, Ext.refl _ _⟩
                  simp [execOp, h53, c, Result.andThen, go_sem]
                case f2_19 =>
                  intro f v g w' hJ hfi hb hd
                  refine arm_u rfl ?_
                  refine op_run rfl ?_
                  have e54 : g 54 = .int .i64 x.i := value_u (hd ⟨1, .data⟩ (by simp) rfl) rfl rfl
                  generalize hA : mkAct _ _ g = A
                  have h54 : A.tmps[54]?.getD undef = .int .i64 x.i := by rw [← hA, mkAct_in2 _ _ _ _ rfl rfl]; exact e54
                  refine step_val (v := .int .i64 (x.i + 1)) (w' := w') ?_ ⟨rfl, Ext.refl _ _⟩
                  simp [execOp, h54, Result.andThen, go_sem]
                  exact IntWalk.i64_in _ ⟨by omega, by omega⟩
                case f3_19 =>
                  intro f v g w' hJ hfi hb hd
                  refine arm_u rfl ?_
                  refine op_run rfl ?_
                  generalize hA : mkAct _ _ g = A
                  have h8 : A.tmps[8]?.getD undef = .pointer (some ⟨Pb, 0, none⟩) := by rw [← hA]; exact mkAct_out2 _ _ _ _ _ rfl rfl
                  refine step_val (v := .pointer (some ⟨Pb, 2, none⟩)) (w' := w') ?_ ⟨rfl, Ext.refl _ _⟩
                  simp [execOp, h8, Result.andThen, go_sem]
                case f4_19 =>
                  intro f v g w' hJ hfi hb hd
                  refine arm_u rfl ?_
                  refine op_run rfl ?_
                  have e56 : g 56 = .pointer (some ⟨Pb, 2, none⟩) := value_u (hd ⟨3, .data⟩ (by simp) rfl) rfl rfl
                  generalize hA : mkAct _ _ g = A
                  have h56 : A.tmps[56]?.getD undef = .pointer (some ⟨Pb, 2, none⟩) := by rw [← hA, mkAct_in2 _ _ _ _ rfl rfl]; exact e56
                  have c := (cp w' hJ.1).2
                  refine step_val (v := .int .i64 xt) (w' := w') ?_ ⟨rfl, Ext.refl _ _⟩
                  simp [execOp, h56, c, Result.andThen, go_sem]
                case f5_19 =>
                  intro f v g w' hJ hfi hb hd
                  refine arm_u rfl ?_
                  refine op_run rfl ?_
                  have e57 : g 57 = .int .i64 xt := value_u (hd ⟨4, .data⟩ (by simp) rfl) rfl rfl
                  generalize hA : mkAct _ _ g = A
                  have h57 : A.tmps[57]?.getD undef = .int .i64 xt := by rw [← hA, mkAct_in2 _ _ _ _ rfl rfl]; exact e57
                  refine step_val (v := .int .i64 (xt % 8)) (w' := w') ?_ ⟨rfl, Ext.refl _ _⟩
                  simp [execOp, h57, Result.andThen, go_sem]
                case f6_19 =>
                  intro f v g w' hJ hfi hb hd
                  refine arm_u rfl ?_
                  refine op_run rfl ?_
                  have e55 : g 55 = .int .i64 (x.i + 1) := value_u (hd ⟨2, .data⟩ (by simp) rfl) rfl rfl
                  have e58 : g 58 = .int .i64 (xt % 8) := value_u (hd ⟨5, .data⟩ (by simp) rfl) rfl rfl
                  generalize hA : mkAct _ _ g = A
                  have h55 : A.tmps[55]?.getD undef = .int .i64 (x.i + 1) := by rw [← hA, mkAct_in2 _ _ _ _ rfl rfl]; exact e55
                  have h58 : A.tmps[58]?.getD undef = .int .i64 (xt % 8) := by rw [← hA, mkAct_in2 _ _ _ _ rfl rfl]; exact e58
                  refine step_val (v := .int .i64 (x.i + 1 + xt % 8)) (w' := w') ?_ ⟨rfl, Ext.refl _ _⟩
                  simp [execOp, h55, h58, Result.andThen, go_sem]
                  exact IntWalk.i64_in _ ⟨by omega, by omega⟩
                case f7_19 =>
                  intro f v g w' hJ hfi hb hd
                  refine arm_u rfl ?_
                  refine op_run rfl ?_
                  generalize hA : mkAct _ _ g = A
                  have h7 : A.tmps[7]?.getD undef = .int .i64 (k : Int) := by rw [← hA]; exact mkAct_out2 _ _ _ _ _ rfl rfl
                  refine step_val (v := .int .i64 (k : Int)) (w' := w') ?_ ⟨rfl, Ext.refl _ _⟩
                  simp [execOp, h7, Result.andThen, go_sem]
                case f8_19 =>
                  intro f v g w' hJ hfi hb hd
                  refine arm_u rfl ?_
                  refine op_run rfl ?_
                  have e60 : g 60 = .int .i64 (k : Int) := value_u (hd ⟨7, .data⟩ (by simp) rfl) rfl rfl
                  generalize hA : mkAct _ _ g = A
                  have h60 : A.tmps[60]?.getD undef = .int .i64 (k : Int) := by rw [← hA, mkAct_in2 _ _ _ _ rfl rfl]; exact e60
                  refine step_val (v := .int .i64 (1 + (k : Int))) (w' := w') ?_ ⟨rfl, Ext.refl _ _⟩
                  simp [execOp, h60, Result.andThen, go_sem]
                  exact IntWalk.i64_in _ ⟨by omega, by omega⟩
                case f9_19 =>
                  intro f v g w' hJ hfi hb hd
                  refine arm_u rfl ?_
                  refine op_run rfl ?_
                  generalize hA : mkAct _ _ g = A
                  have h8 : A.tmps[8]?.getD undef = .pointer (some ⟨Pb, 0, none⟩) := by rw [← hA]; exact mkAct_out2 _ _ _ _ _ rfl rfl
                  refine step_val (v := .pointer (some ⟨Pb, 1, none⟩)) (w' := w') ?_ ⟨rfl, Ext.refl _ _⟩
                  simp [execOp, h8, Result.andThen, go_sem]
                case f10_19 =>
                  intro f v g w' hJ hfi hb hd
                  refine arm_u rfl ?_
                  refine op_run rfl ?_
                  have e62 : g 62 = .pointer (some ⟨Pb, 1, none⟩) := value_u (hd ⟨9, .data⟩ (by simp) rfl) rfl rfl
                  generalize hA : mkAct _ _ g = A
                  have h62 : A.tmps[62]?.getD undef = .pointer (some ⟨Pb, 1, none⟩) := by rw [← hA, mkAct_in2 _ _ _ _ rfl rfl]; exact e62
                  have c := (cp w' hJ.1).1
                  refine step_val (v := .int .i64 xn) (w' := w') ?_ ⟨rfl, Ext.refl _ _⟩
                  simp [execOp, h62, c, Result.andThen, go_sem]
                case f11_19 =>
                  intro f v g w' hJ hfi hb hd
                  refine arm_u rfl ?_
                  refine op_run rfl ?_
                  have e63 : g 63 = .int .i64 xn := value_u (hd ⟨10, .data⟩ (by simp) rfl) rfl rfl
                  generalize hA : mkAct _ _ g = A
                  have h63 : A.tmps[63]?.getD undef = .int .i64 xn := by rw [← hA, mkAct_in2 _ _ _ _ rfl rfl]; exact e63
                  refine step_val (v := .int .i64 (xn % 2048)) (w' := w') ?_ ⟨rfl, Ext.refl _ _⟩
                  simp [execOp, h63, Result.andThen, go_sem]
                case f12_19 =>
                  intro f v g w' hJ hfi hb hd
                  refine arm_u rfl ?_
                  refine op_run rfl ?_
                  generalize hA : mkAct _ _ g = A
                  have h7 : A.tmps[7]?.getD undef = .int .i64 (k : Int) := by rw [← hA]; exact mkAct_out2 _ _ _ _ _ rfl rfl
                  refine step_val (v := .int .i64 (k : Int)) (w' := w') ?_ ⟨rfl, Ext.refl _ _⟩
                  simp [execOp, h7, Result.andThen, go_sem]
                case f13_19 =>
                  intro f v g w' hJ hfi hb hd
                  refine arms_u rfl ?_
                  refine op_run rfl ?_
                  have e64 : g 64 = .int .i64 (xn % 2048) := value_u (hd ⟨11, .data⟩ (by simp) rfl) rfl rfl
                  have e65 : g 65 = .int .i64 (k : Int) := value_u (hd ⟨12, .data⟩ (by simp) rfl) rfl rfl
                  generalize hA : mkAct _ _ g = A
                  have h64 : A.tmps[64]?.getD undef = .int .i64 (xn % 2048) := by rw [← hA, mkAct_in2 _ _ _ _ rfl rfl]; exact e64
                  have h65 : A.tmps[65]?.getD undef = .int .i64 (k : Int) := by rw [← hA, mkAct_in2 _ _ _ _ rfl rfl]; exact e65
                  refine mid_u (fun K hK => ?_)
                  go_simp
                  refine (text7_any (xn % 2048) (k : Int) w' (by omega)).mono ?_
                  rintro e w2 ⟨tx, rfl, htl, hx2⟩
                  exact hK (str tx) w2 ⟨hJ.1.then0 hx2, fun h => Blk.keep (hJ.2.1 h) hx2 List.not_mem_nil, fun _ => ⟨tx, setU_same _ _ _, by omega⟩, fun h14 => hJ.2.2.2.1 h14, fun h15 => (by obtain ⟨ty, h1, h2⟩ := hJ.2.2.2.2 h15; exact ⟨ty, h1, Blk.keep h2 hx2 List.not_mem_nil⟩)⟩
                case f14_19 =>
                  intro f v g w' hJ hfi hb hd
                  refine arms_u rfl ?_
                  refine op_run rfl ?_
                  have e59 : g 59 = .int .i64 (x.i + 1 + xt % 8) := value_u (hd ⟨6, .data⟩ (by simp) rfl) rfl rfl
                  have e61 : g 61 = .int .i64 (1 + (k : Int)) := value_u (hd ⟨8, .data⟩ (by simp) rfl) rfl rfl
                  obtain ⟨hf66, e66⟩ := special_u (hd ⟨13, .data⟩ (by simp) rfl) rfl rfl
                  replace e66 : g 66 = v 13 := e66
                  obtain ⟨tx, ez, htl⟩ := hJ.2.2.1 hf66
                  rw [ez] at e66
                  generalize hA : mkAct _ _ g = A
                  have h59 : A.tmps[59]?.getD undef = .int .i64 (x.i + 1 + xt % 8) := by rw [← hA, mkAct_in2 _ _ _ _ rfl rfl]; exact e59
                  have h61 : A.tmps[61]?.getD undef = .int .i64 (1 + (k : Int)) := by rw [← hA, mkAct_in2 _ _ _ _ rfl rfl]; exact e61
                  have h66 : A.tmps[66]?.getD undef = str tx := by rw [← hA, mkAct_in2 _ _ _ _ rfl rfl]; exact e66
                  refine step_val (v := .agg #[.int .i64 (x.i + 1 + xt % 8), .int .i64 (1 + (k : Int)), str tx]) (w' := w') ?_ ⟨_, rfl, hJ.1, fun h => hJ.2.1 h, fun h => hJ.2.2.1 h, fun _ => ⟨tx, setU_same _ _ _, htl⟩, fun h => hJ.2.2.2.2 h⟩
                  simp [execOp, h59, h61, h66, Result.andThen, go_sem]
                case f15_19 =>
                  intro f v g w' hJ hfi hb hd
                  refine arms_u rfl ?_
                  refine op_run rfl ?_
                  obtain ⟨hf67, e67⟩ := special_u (hd ⟨14, .data⟩ (by simp) rfl) rfl rfl
                  replace e67 : g 67 = v 14 := e67
                  obtain ⟨tx, ez, htl⟩ := hJ.2.2.2.1 hf67
                  rw [ez] at e67
                  generalize hA : mkAct _ _ g = A
                  have h9 : A.tmps[9]?.getD undef = .pointer (some ⟨Nb, 0, none⟩) := by rw [← hA]; exact mkAct_out2 _ _ _ _ _ rfl rfl
                  have h67 : A.tmps[67]?.getD undef = .agg #[.int .i64 (x.i + 1 + xt % 8), .int .i64 (1 + (k : Int)), str tx] := by rw [← hA, mkAct_in2 _ _ _ _ rfl rfl]; exact e67
                  have hB0 := hJ.2.1 hfi
                  have c0 : w'.cell? ⟨Nb, 0, none⟩ = some (.int .i64 x.i) := Blk.c hB0 0
                  have c1 : w'.cell? ⟨Nb, 1, none⟩ = some (.int .i64 x.t) := Blk.c hB0 1
                  have c2 : w'.cell? ⟨Nb, 2, none⟩ = some (str x.d) := Blk.c hB0 2
                  have cf := fun j => Blk.f hB0 j
                  have cl := Blk.lt hB0
                  have HX9 : Ext [Nb] w' (((w'.setCell ⟨Nb, 0, none⟩ (.int .i64 (x.i + 1 + xt % 8))).setCell ⟨Nb, 1, none⟩ (.int .i64 (1 + (k : Int)))).setCell ⟨Nb, 2, none⟩ (str tx)) := ((((Ext.refl [Nb] w').setCell (p := ⟨Nb, 0, none⟩) (.inl (List.mem_singleton.2 rfl)) (.int .i64 (x.i + 1 + xt % 8))).setCell (p := ⟨Nb, 1, none⟩) (.inl (List.mem_singleton.2 rfl)) (.int .i64 (1 + (k : Int)))).setCell (p := ⟨Nb, 2, none⟩) (.inl (List.mem_singleton.2 rfl)) (str tx))
                  have HB9 := (Blk.set (Blk.set (Blk.set hB0 0 (.int .i64 (x.i + 1 + xt % 8))) 1 (.int .i64 (1 + (k : Int)))) 2 (str tx))
                  refine step_skip (w' := (((w'.setCell ⟨Nb, 0, none⟩ (.int .i64 (x.i + 1 + xt % 8))).setCell ⟨Nb, 1, none⟩ (.int .i64 (1 + (k : Int)))).setCell ⟨Nb, 2, none⟩ (str tx))) ?_ ⟨undef, rfl, hJ.1.trans HX9 (fun z hz => .inl hz), fun h => (by cases h), fun h => hJ.2.2.1 h, fun h => hJ.2.2.2.1 h, fun _ => ⟨tx, htl, HB9⟩⟩
                  simp [execOp, h9, h67, c0, c1, c2, cf, cl, Result.andThen, go_sem]
              intro f v g wn hJ hk
              have hfs15 : f 15 = true := ((hk 15 (by decide)).2 rfl).1
              obtain ⟨hx9, -, -, -, j5⟩ := hJ
              obtain ⟨tx, htl, hbN⟩ := j5 hfs15
              clear hk j5 cl cp hfs15
              have HS9 := Hid.of (HS7.out.other hx9 (by simp) HNw.out.1)
              have HB9 : Hid (ShotAt wn Lb x) := Hid.of (Blk.keep HB7.out hx9 (by have := HNw.out; simp; omega))
              have HN9 : Hid (ShotAt wn Nb ⟨x.i + 1 + xt % 8, 1 + (k : Int), tx⟩) := Hid.of hbN
              have HP9 : Hid (Kept [Pb] w7 wn) := Hid.of (fun z hz o ho => hx9.heap (by have := HNw.out; simp at hz ⊢; omega) ho)
              have hkey := hG.out.put7 (d := tx) hF.out HC6.out HD6.out (by rw [HMore.out]; exact ⟨fun h => h.2, fun h => ⟨hk3, h⟩⟩ : more ↔ xf % 2 ≠ 1) (show x.i < x.i + 1 + xt % 8 by omega) (text_right (i := x.i + 1 + xt % 8) (t := 1 + (k : Int)) (by omega) (by omega) (by omega)) fs
              have HKey := Hid.of hkey
              have HTl := Hid.of htl
              have cpt := HS9.out.put7 (x.i + 1 + xt % 8) (1 + (k : Int)) tx (by omega) (by rw [HC6.out.calm.since]; simp)
              have n0 := (Blk.c HN9.out 0 : wn.cell? ⟨Nb, 0, none⟩ = some (.int .i64 (x.i + 1 + xt % 8)))
              have n1 := (Blk.c HN9.out 1 : wn.cell? ⟨Nb, 1, none⟩ = some (.int .i64 (1 + (k : Int))))
              have n2 := (Blk.c HN9.out 2 : wn.cell? ⟨Nb, 2, none⟩ = some (str tx))
              clear hkey htl hbN hx9 hxi
              have HLe : Hid (x.i + 1 + xt % 8 ≤ 8 * ((k + 1 : Nat) : Int)) := Hid.of (by have := HXi.out; omega)
              have HLx : Hid (x.le (k + 1)) := Hid.of ⟨by have := hle.out.1; omega, hle.out.2⟩
              clear hle
              unfold mkAct; simp only [List.zipIdx_cons, List.zipIdx_nil, List.map_cons, List.map_nil, Nat.zero_add, Nat.reduceAdd, List.contains_cons, List.contains_nil, Nat.reduceBEq, Bool.or_false, Bool.or_true, ↓reduceIte, Bool.false_eq_true]
              generalize x.i + 1 + xt % 8 = ni at *
              generalize ofL ni (1 + (k : Int)) tx = nl at *
              rcases HKey.out with ⟨D', e, hh⟩ | ⟨D', e, hn, hh⟩
              · have HH := Hid.of hh
                rw [e] at cpt
                unfold PutTo at cpt
                simp only at cpt
                clear e hh HKey
                go_wp2_with fail
                refine cpt.mono ?_
                rintro e w10 ⟨sv', rfl, hs10, hk10⟩
                have HS10 := Hid.of hs10
                have HN10 : Hid (ShotAt w10 Nb ⟨ni, 1 + (k : Int), tx⟩) := Hid.of (hk10.blk HN9.out (by simp))
                have HB10 : Hid (ShotAt w10 Lb x) := Hid.of (hk10.blk HB9.out (by simp))
                have HP10 : Hid (Kept [Pb] w7 w10) := Hid.of (HP9.out.trans (hk10.sub (fun z hz => by simp at hz; simp [hz])))
                clear hs10 hk10 cpt n0 n1 n2 HS9 HN9 HB9 HP9
                have n0 := (Blk.c HN10.out 0 : w10.cell? ⟨Nb, 0, none⟩ = some (.int .i64 ni))
                have n1 := (Blk.c HN10.out 1 : w10.cell? ⟨Nb, 1, none⟩ = some (.int .i64 (1 + (k : Int))))
                have n2 := (Blk.c HN10.out 2 : w10.cell? ⟨Nb, 2, none⟩ = some (str tx))
                have l0 := (Blk.c HB10.out 0 : w10.cell? ⟨Lb, 0, none⟩ = some (.int .i64 x.i))
                have l1 := (Blk.c HB10.out 1 : w10.cell? ⟨Lb, 1, none⟩ = some (.int .i64 x.t))
                have l2 := (Blk.c HB10.out 2 : w10.cell? ⟨Lb, 2, none⟩ = some (str x.d))
                have lf := fun j => Blk.f HB10.out j
                have ll := Blk.lt HB10.out
                go_wp2
                go_meet
                have hxL : Ext [Lb] w10 (((w10.setCell ⟨Lb, 0, none⟩ (.int .i64 ni)).setCell ⟨Lb, 1, none⟩ (.int .i64 (1 + (k : Int)))).setCell ⟨Lb, 2, none⟩ (str tx)) := (((Ext.refl [Lb] w10).setCell (p := ⟨Lb, 0, none⟩) (.inl (by simp)) _).setCell (p := ⟨Lb, 1, none⟩) (.inl (by simp)) _).setCell (p := ⟨Lb, 2, none⟩) (.inl (by simp)) _
                refine ⟨⟨sv', D', _, ⟨ni, 1 + (k : Int), tx⟩, ⟨ni, 1 + (k : Int), tx⟩, HS10.out.other hxL (by simp) HLb.out, Blk.set (Blk.set (Blk.set HB10.out 0 _) 1 _) 2 _, Blk.keep HN10.out hxL (by have := HNw.out; simp; omega), ⟨HLe.out, HTl.out⟩, ⟨HLe.out, HTl.out⟩, HH.out⟩, HP10.out.trans (fun z hz o ho => hxL.heap (by have := HNw.out; simp at hz ⊢; have := HPL.out; omega) ho)⟩
              · have HH := Hid.of hh
                have HNo := Hid.of hn
                rw [e] at cpt
                unfold PutTo at cpt
                simp only at cpt
                clear e hh hn HKey
                go_wp2_with fail
                refine cpt.mono ?_
                rintro e w10 ⟨sv', rfl, hs10, hk10⟩
                have HS10 := Hid.of hs10
                have HN10 : Hid (ShotAt w10 Nb ⟨ni, 1 + (k : Int), tx⟩) := Hid.of (hk10.blk HN9.out (by simp))
                have HB10 : Hid (ShotAt w10 Lb x) := Hid.of (hk10.blk HB9.out (by simp))
                have HP10 : Hid (Kept [Pb] w7 w10) := Hid.of (HP9.out.trans (hk10.sub (fun z hz => by simp at hz; simp [hz])))
                clear hs10 hk10 cpt n0 n1 n2 HS9 HN9 HB9 HP9
                go_wp2
                go_meet
                exact ⟨⟨sv', D', s, x, ⟨ni, 1 + (k : Int), tx⟩, HS10.out, HB10.out, HN10.out, HLx.out, ⟨HLe.out, HTl.out⟩, .inr ⟨HNo.out, HH.out⟩⟩, HP10.out⟩
            · have hkd : decide (xk % 4 < 3) = false := decide_eq_false hk3
              have hnm : ¬ more := fun hh => by rw [HMore.out] at hh; exact hk3 hh.1
              clear d0
              go_wp2
              go_meet
              have hle1 : x.le (k + 1) := ⟨by have := hle.out.1; omega, hle.out.2⟩
              exact ⟨⟨sv, D1, s, x, x, HS7.out, HB7.out, HN7.out, hle1, hle1, .inr ⟨hnm, V, s, HC6.out.crash (by omega) fs, .inl ⟨hG.out, .inl rfl⟩⟩⟩, Kept.refl _ _⟩
          case rest =>
            obtain ⟨HM, HKp⟩ := hcut
            obtain ⟨sv, D, s, l, y, hs, hbl, hny, hle, yle, hh⟩ := HM.out
            have HP8 := Hid.of (HKp.out.blk HP7.out (by simp))
            have HS8 := Hid.of hs
            have HB8 := Hid.of hbl
            have HN8 := Hid.of hny
            have HLl := Hid.of hle
            have HLy := Hid.of yle
            obtain ⟨w8, hw8⟩ : ∃ w, w = wc := ⟨_, rfl⟩
            rw [← hw8] at HS8 HB8 HN8 HP8 ⊢
            clear HM HKp hs hbl hny hle yle hw8 HS7 HB7 HN7 HP7 HC6 HD6 hF hG d0
            have d0 := (Blk.c HP8.out 0 : w8.cell? ⟨Pb, 0, none⟩ = some (.int .i64 xk))
            have d3 := (Blk.c HP8.out 3 : w8.cell? ⟨Pb, 3, none⟩ = some (.int .i64 xf))
            have cdn := down_n b D w0 w8 HS8.out.dev.n
            rcases hh with ⟨hm, V8, hf8, hg8⟩ | ⟨hnm, V8, s8, hf8, hz8⟩
            · have hm2 := hm
              rw [HMore.out] at hm2
              have hkd : decide (xk % 4 < 3) = true := decide_eq_true hm2.1
              have hfd : (xf % 2 == 0) = true := by have := hm2.2; simp; omega
              rw [hf8.fine.live.down] at cdn
              have b0 := (Blk.c HB8.out 0 : w8.cell? ⟨Lb, 0, none⟩ = some (.int .i64 l.i))
              have b1 := (Blk.c HB8.out 1 : w8.cell? ⟨Lb, 1, none⟩ = some (.int .i64 l.t))
              have b2 := (Blk.c HB8.out 2 : w8.cell? ⟨Lb, 2, none⟩ = some (str l.d))
              have ch := holds7 HS8.out hf8.fine hg8 (by have := HLl.out.2; omega)
              have HF8 := Hid.of hf8
              have HG8 := Hid.of hg8
              clear hm hm2 hf8 hg8
              go_wp2_with fail
              refine cdn.mono ?_
              rintro e w9 ⟨rfl, rfl⟩
              clear cdn
              go_wp2_with fail
              refine ch.mono ?_
              rintro e w9 ⟨rfl, hx9⟩
              have HX9 := Hid.of hx9
              clear ch hx9 d0 d3 b0 b1 b2
              go_wp2
              go_roundw
              case rel =>
                refine ⟨k + 1, b, q, sv, D, V8, s, l, rfl, rfl, by congr 1, by omega, (HS8.out.keep HX9.out).sub (by simp), HF8.out, HG8.out, Blk.keep HB8.out HX9.out (by simp), HLl.out⟩
              case measure => simp [intOf]; omega
            · have HNm := Hid.of hnm
              have HF8 := Hid.of hf8
              have HZ8 := Hid.of hz8
              have hopen : openSt 5 V8 = s8 := by rcases hz8 with ⟨h, _⟩ | ⟨h, _⟩ <;> exact h.open
              clear hnm hf8 hz8
              go_upto_region 25 with fail
              go_cut [95] from 30 to 129 (fun u wx => u = .bool false ∧ Hid (Ext [] w8 wx))
              case first =>
                go_wp2_with fail
                refine cdn.mono ?_
                rintro e w9 ⟨rfl, rfl⟩
                generalize D.down = dn
                cases dn with
                | true =>
                  go_wp2_with fail
                  go_meet
                  exact ⟨rfl, Ext.refl _ _⟩
                | false =>
                  by_cases hk3 : xk % 4 < 3
                  · have hkd : decide (xk % 4 < 3) = true := decide_eq_true hk3
                    have hfd : (xf % 2 == 0) = false := by
                      have := HNm.out
                      rw [HMore.out] at this
                      have h2 : xf % 2 = 1 := by
                        by_cases h : xf % 2 = 1
                        · exact h
                        · exact absurd ⟨hk3, h⟩ this
                      simp [h2]
                    go_wp2_with fail
                    go_meet
                    exact ⟨rfl, Ext.refl _ _⟩
                  · have hkd : decide (xk % 4 < 3) = false := decide_eq_false hk3
                    go_wp2_with fail
                    go_meet
                    exact ⟨rfl, Ext.refl _ _⟩
              case rest =>
                obtain ⟨rfl, HX9⟩ := hcut
                obtain ⟨w9, hw9⟩ : ∃ w, w = wc := ⟨_, rfl⟩
                rw [← hw9] at HX9 ⊢
                have d4 := (HX9.out.cell (p := ⟨Pb, 4, none⟩) (by simp) (Blk.c HP8.out 4) : w9.cell? ⟨Pb, 4, none⟩ = some (.slice fa fl fc))
                have HB9 : Hid (ShotAt w9 Lb l) := Hid.of (Blk.keep HB8.out HX9.out (by simp))
                have HN9 : Hid (ShotAt w9 Nb y) := Hid.of (Blk.keep HN8.out HX9.out (by simp))
                have HD9 := Hid.of (HS8.out.keep HX9.out).dev
                have cc := crash_o (fs := fs) HD9.out (HFs.out.keep HD9.out.ext (by simp))
                clear hw9 cdn d0 d3 HS8 HB8 HN8 HP8 HX9
                go_wp2_with fail
                refine cc.mono ?_
                rintro e w10 ⟨b', rfl, hd10, hx10⟩
                have HB10 : Hid (ShotAt w10 Lb l) := Hid.of (Blk.keep HB9.out hx10 (by simp))
                have HN10 : Hid (ShotAt w10 Nb y) := Hid.of (Blk.keep HN9.out hx10 (by simp))
                have HD10 : Hid (DevO w0 w10 b' (crashD fs D) [Nb, Lb]) := Hid.of (hd10.sub (fun z hz => by simp at hz ⊢; rcases hz with h | h <;> simp [h]))
                clear cc d4 hd10 hx10 HB9 HN9 HD9
                go_wp2_with fail
                refine (open7_o HD10.out HF8.out.fine 5 (by omega) (by omega)).mono ?_
                rintro e w11 ⟨q', sv', rfl, hs11, hx11, -⟩
                rw [hopen] at hs11
                have HS11 := Hid.of hs11
                have HB11 : Hid (ShotAt w11 Lb l) := Hid.of (Blk.keep HB10.out hx11 (by simp))
                have HN11 : Hid (ShotAt w11 Nb y) := Hid.of (Blk.keep HN10.out hx11 (by simp))
                have cl := hs11.list7
                unfold ListTo at cl
                have HY := Hid.of (fun ha hi => HZ8.out.yes ha hi)
                have HNo := Hid.of (fun h => HZ8.out.no h)
                obtain ⟨is, his⟩ : ∃ b, b = decide (¬ s8.area < 0) := ⟨_, rfl⟩
                obtain ⟨l9, hl9⟩ : ∃ x, x = (if s8.area < 0 then Ls.zero else s8.list) := ⟨_, rfl⟩
                rw [← his, ← hl9] at cl
                have HT : Hid ((is = true ∧ l9.idx = y.i → Good 5 V8 s8 y) ∧ (¬ (is = true ∧ l9.idx = y.i) → Good 5 V8 s8 l)) := Hid.of (by
                  rw [his, hl9]
                  by_cases ha : s8.area < 0
                  · rw [if_pos ha]
                    refine ⟨fun h => ?_, fun _ => HNo.out (fun h => h.1 ha)⟩
                    have := of_decide_eq_true h.1
                    exact absurd ha this
                  · rw [if_neg ha]
                    exact ⟨fun h => HY.out ha h.2, fun h => HNo.out (fun h2 => h ⟨decide_eq_true ha, h2.2⟩)⟩)
                clear his hl9 HY HNo HZ8 hs11 hx11 HD10 HB10 HN10 hopen
                go_wp2_with fail
                refine cl.mono ?_
                rintro e w12 ⟨sl, rfl, ho12, hx12, hv12⟩
                obtain ⟨sa, sc, rfl⟩ := Rd.isSlice ho12.rd
                obtain ⟨R, hR⟩ : ∃ z, z = w12.heap.size := ⟨_, rfl⟩
                obtain ⟨w13, hw13⟩ : ∃ w, w = w12.alloc (.cells #[.int .i64 l9.idx, .int .i64 l9.term, .int .i64 l9.bytes, .slice sa l9.sums.length sc] 42) := ⟨_, rfl⟩
                have hx13 : Ext [] w11 w13 := by rw [hw13]; exact hx12.alloc _
                have HR13 : Hid (Blk w13 R 42 [.int .i64 l9.idx, .int .i64 l9.term, .int .i64 l9.bytes, .slice sa l9.sums.length sc]) := Hid.of (by rw [hw13]; exact Blk.newg hR.symm)
                have HS13 := Hid.of (HS11.out.keep hx13)
                have HB13 : Hid (ShotAt w13 Lb l) := Hid.of (Blk.keep HB11.out hx13 (by simp))
                have HN13 : Hid (ShotAt w13 Nb y) := Hid.of (Blk.keep HN11.out hx13 (by simp))
                clear cl ho12 hx12 hv12 hx13 HS11 HB11 HN11
                unfold lsv
                go_upto_region 33 with fail
                rw [← hw13, ← hR]
                clear hw13 hR
                have r0 := (Blk.c HR13.out 0 : w13.cell? ⟨R, 0, none⟩ = some (.int .i64 l9.idx))
                have n0 := (Blk.c HN13.out 0 : w13.cell? ⟨Nb, 0, none⟩ = some (.int .i64 y.i))
                obtain ⟨T, hT⟩ : ∃ T, T = decide (is = true ∧ l9.idx = y.i) := ⟨_, rfl⟩
                have HTT := Hid.of hT
                clear hT
                go_cut [123] from 30 to 129 (fun u wx => u = .bool T ∧ Hid (Ext [] w13 wx))
                case first =>
                  cases is with
                  | false =>
                    have HTf : Hid (T = false) := Hid.of (by rw [HTT.out]; simp)
                    go_wp2_with fail
                    go_meet
                    exact ⟨by rw [HTf.out], Ext.refl _ _⟩
                  | true =>
                    by_cases hie : l9.idx = y.i
                    · have HTf : Hid (T = true) := Hid.of (by rw [HTT.out]; simp [hie])
                      have hie2 : (l9.idx == y.i) = true := by simp [hie]
                      clear hie
                      go_wp2_with fail
                      go_meet
                      exact ⟨by rw [HTf.out], Ext.refl _ _⟩
                    · have HTf : Hid (T = false) := Hid.of (by rw [HTT.out]; simp [hie])
                      have hie2 : (l9.idx == y.i) = false := by simp [hie]
                      go_wp2_with fail
                      go_meet
                      exact ⟨by rw [HTf.out], Ext.refl _ _⟩
                case rest =>
                  obtain ⟨rfl, HX14⟩ := hcut
                  obtain ⟨w14, hw14⟩ : ∃ w, w = wc := ⟨_, rfl⟩
                  rw [← hw14] at HX14 ⊢
                  have HS14 := Hid.of (HS13.out.keep HX14.out)
                  have HB14 : Hid (ShotAt w14 Lb l) := Hid.of (Blk.keep HB13.out HX14.out (by simp))
                  have HN14 : Hid (ShotAt w14 Nb y) := Hid.of (Blk.keep HN13.out HX14.out (by simp))
                  clear hw14 HS13 HB13 HN13 HX14 HR13 r0 n0
                  have n0 := (Blk.c HN14.out 0 : w14.cell? ⟨Nb, 0, none⟩ = some (.int .i64 y.i))
                  have n1 := (Blk.c HN14.out 1 : w14.cell? ⟨Nb, 1, none⟩ = some (.int .i64 y.t))
                  have n2 := (Blk.c HN14.out 2 : w14.cell? ⟨Nb, 2, none⟩ = some (str y.d))
                  have l0 := (Blk.c HB14.out 0 : w14.cell? ⟨Lb, 0, none⟩ = some (.int .i64 l.i))
                  have l1 := (Blk.c HB14.out 1 : w14.cell? ⟨Lb, 1, none⟩ = some (.int .i64 l.t))
                  have l2 := (Blk.c HB14.out 2 : w14.cell? ⟨Lb, 2, none⟩ = some (str l.d))
                  have lf := fun j => Blk.f HB14.out j
                  have ll := Blk.lt HB14.out
                  go_upto_if 123 with fail
                  go_cut [] from 30 to 129 (fun wx => Hid (∃ x9 : Shot, StM w0 wx q' b' sv' (crashD fs D) s8 200 [Nb, Lb] ∧ ShotAt wx Lb x9 ∧ Good 5 V8 s8 x9 ∧ x9.le (k + 1)))
                  case first =>
                    cases hTT : T with
                    | false =>
                      have HGl : Hid (Good 5 V8 s8 l) := Hid.of (HT.out.2 (of_decide_eq_false (HTT.out.symm.trans hTT)))
                      clear hTT
                      go_wp2
                      go_meet
                      exact ⟨l, HS14.out, HB14.out, HGl.out, HLl.out⟩
                    | true =>
                      have HGy : Hid (Good 5 V8 s8 y) := Hid.of (HT.out.1 (of_decide_eq_true (HTT.out.symm.trans hTT)))
                      clear hTT
                      go_wp2
                      go_meet
                      have hxL : Ext [Lb] w14 (((w14.setCell ⟨Lb, 0, none⟩ (.int .i64 y.i)).setCell ⟨Lb, 1, none⟩ (.int .i64 y.t)).setCell ⟨Lb, 2, none⟩ (str y.d)) := (((Ext.refl [Lb] w14).setCell (p := ⟨Lb, 0, none⟩) (.inl (by simp)) _).setCell (p := ⟨Lb, 1, none⟩) (.inl (by simp)) _).setCell (p := ⟨Lb, 2, none⟩) (.inl (by simp)) _
                      exact ⟨y, HS14.out.other hxL (by simp) HLb.out, Blk.set (Blk.set (Blk.set HB14.out 0 _) 1 _) 2 _, HGy.out, HLy.out⟩
                  case rest =>
                    clear n0 n1 n2 l0 l1 l2 lf ll
                    obtain ⟨x9, hs9, hb9, hg9, hl9⟩ := hcut.out
                    obtain ⟨w15, hw15⟩ : ∃ w, w = wc := ⟨_, rfl⟩
                    rw [← hw15] at hs9 hb9 ⊢
                    have ch := holds7 hs9 HF8.out.fine hg9 (by have := hl9.2; omega)
                    have b0 := (Blk.c hb9 0 : w15.cell? ⟨Lb, 0, none⟩ = some (.int .i64 x9.i))
                    have b1 := (Blk.c hb9 1 : w15.cell? ⟨Lb, 1, none⟩ = some (.int .i64 x9.t))
                    have b2 := (Blk.c hb9 2 : w15.cell? ⟨Lb, 2, none⟩ = some (str x9.d))
                    have HS15 := Hid.of hs9
                    have HB15 := Hid.of hb9
                    have HG15 := Hid.of hg9
                    have HL15 := Hid.of hl9
                    clear hs9 hb9 hg9 hl9 hw15 HS14 HB14 HN14 HT HTT
                    go_wp2_with fail
                    refine ch.mono ?_
                    rintro e w16 ⟨rfl, hx16⟩
                    have HX16 := Hid.of hx16
                    clear ch hx16 b0 b1 b2
                    go_wp2
                    go_roundw
                    case rel =>
                      refine ⟨k + 1, b', q', sv', crashD fs D, V8, s8, x9, rfl, rfl, by congr 1, by omega, (HS15.out.keep HX16.out).sub (by simp), HF8.out, HG15.out, Blk.keep HB15.out HX16.out (by simp), HL15.out⟩
                    case measure => simp [intOf]; omega
      · obtain rfl : k = len := by omega
        have HXe := Hid.of hS.out.dev.ext
        clear hS hF hG hB hle
        go_wp2
        go_ret
        exact ⟨rfl, HXe.out⟩
end Go.Proofs.Ytlnfigbcdmfmdaa
