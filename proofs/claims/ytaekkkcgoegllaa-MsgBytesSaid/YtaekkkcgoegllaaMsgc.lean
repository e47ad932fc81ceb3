/- Package msg: the walk of Bytes. -/
import Derived.Test.YtaekkkcgoegllaaMsgb
import Derived.Test.YtaekkkcgoegllaaRegInv3
namespace Go.Proofs.Ytaekkkcgoegllaa
open Go.RowKit
set_option linter.unusedVariables false
set_option linter.unusedSimpArgs false
def by7Φ (B0 : Nat) (X : Nat) (v4 : Value) (xi xt : Int) (xd L0 L1 L2 : List UInt8) (n : Nat) (yy : Value) (w : World) : Prop :=
  match n with
  | 0 => yy = v4
  | 1 => yy = .pointer (some ⟨X, 0, none⟩)
  | 2 => yy = .int .i64 xi
  | 3 => yy = .pointer (some ⟨X, 1, none⟩)
  | 4 => yy = .int .i64 xt
  | 5 => ∃ p, B0 ≤ p ∧ yy = .slice (some ⟨p, 0, none⟩) 2 2 ∧ Rd w 1 yy 2 (([xi, xt]).map (Value.int .i64))
  | 7 => yy = .pointer (some ⟨X, 2, none⟩)
  | 8 => yy = str xd
  | 9 => ∃ p, B0 ≤ p ∧ yy = .slice (some ⟨p, 0, none⟩) 1 1 ∧ Rd w 1 yy 1 (([xd]).map str)
  | _ => True
def by7vb (i : Nat) (v : Value) : List Nat := vblocks v
theorem by7Φ_keep (F0 : List Nat) (B0 : Nat) (X : Nat) (v4 : Value) (xi xt : Int) (xd L0 L1 L2 : List UInt8) (hF : ∀ z ∈ F0, z < B0) (n0 : Nat) (yy : Value) (F : List Nat) (w w' : World) (h : by7Φ B0 X v4 xi xt xd L0 L1 L2 n0 yy w) (hx : Ext (F0 ++ F) w w') (hv : ∀ x ∈ by7vb n0 yy, x ∉ F) : by7Φ B0 X v4 xi xt xd L0 L1 L2 n0 yy w' := by
  unfold by7Φ at h ⊢
  split at h <;> first | exact h | (
    obtain ⟨p, hp, rfl, hr⟩ := h
    refine ⟨p, hp, rfl, hr.keep hx (fun z hz hm => ?_)⟩
    rcases List.mem_append.1 hm with h1 | h1
    · have := hF z h1
      simp [vblocks] at hz
      omega
    · exact hv z hz h1)
def by7C (F0 : List Nat) (B0 : Nat) (X : Nat) (v4 : Value) (xi xt : Int) (xd L0 L1 L2 : List UInt8) (s : Nat) (g : Nat → Value) (O : List Nat) (w : World) : Prop :=
  match s with
  | 0 => O = [] ∧ g 4 = v4 ∧ OwnB w v4 L0
  | 1 => O = [] ∧ g 40 = v4 ∧ OwnB w v4 L0
  | 2 => OwnB w (g 46) L1 ∧ ∀ z ∈ vblocks (g 46), z ∈ F0 ∨ (z ∈ O ∧ B0 ≤ z)
  | 3 => OwnB w (g 50) L2 ∧ ∀ z ∈ vblocks (g 50), z ∈ F0 ∨ (z ∈ O ∧ B0 ≤ z)
  | 4 => OwnB w (g 4) L2 ∧ ∀ z ∈ vblocks (g 4), z ∈ F0 ∨ (z ∈ O ∧ B0 ≤ z)
  | _ => True
theorem by7C_keep (F0 : List Nat) (B0 : Nat) (X : Nat) (v4 : Value) (xi xt : Int) (xd L0 L1 L2 : List UInt8) (s : Nat) (g : Nat → Value) (O : List Nat) (w w' : World) (h : by7C F0 B0 X v4 xi xt xd L0 L1 L2 s g O w) (hx : Ext [] w w') : by7C F0 B0 X v4 xi xt xd L0 L1 L2 s g O w' := by
  unfold by7C at h ⊢
  split at h <;> first | exact h | exact ⟨h.1.keep hx (by simp), h.2⟩ | exact ⟨h.1, h.2.keep hx (by simp)⟩ | exact ⟨h.1, h.2.1, h.2.2.keep hx (by simp)⟩
def by9Φ (B0 : Nat) (G : Nat) (v4 : Value) (ok : Bool) (st li lt lb sn : Int) (sa : Option Addr) (nn c : Nat) (L0 L1 L2 : List UInt8) (n : Nat) (yy : Value) (w : World) : Prop :=
  match n with
  | 0 => yy = v4
  | 1 => yy = .pointer (some ⟨G, 9, none⟩)
  | 2 => yy = .bool ok
  | 3 => ∃ p, B0 ≤ p ∧ yy = .slice (some ⟨p, 0, none⟩) 1 1 ∧ Rd w 1 yy 1 (([ok]).map Value.bool)
  | 5 => yy = .pointer (some ⟨G, 10, none⟩)
  | 6 => yy = .int .i64 st
  | 7 => yy = .pointer (some ⟨G, 11, none⟩)
  | 8 => yy = .pointer (some ⟨G, 11, none⟩)
  | 9 => yy = .int .i64 li
  | 10 => yy = .pointer (some ⟨G, 11, none⟩)
  | 11 => yy = .pointer (some ⟨G, 12, none⟩)
  | 12 => yy = .int .i64 lt
  | 13 => yy = .pointer (some ⟨G, 11, none⟩)
  | 14 => yy = .pointer (some ⟨G, 13, none⟩)
  | 15 => yy = .int .i64 lb
  | 16 => yy = .pointer (some ⟨G, 11, none⟩)
  | 17 => yy = .pointer (some ⟨G, 14, none⟩)
  | 18 => yy = .slice sa nn c
  | 19 => yy = .int .i64 sn
  | 20 => ∃ p, B0 ≤ p ∧ yy = .slice (some ⟨p, 0, none⟩) 5 5 ∧ Rd w 1 yy 5 (([st, li, lt, lb, sn]).map (Value.int .i64))
  | _ => True
def by9vb (i : Nat) (v : Value) : List Nat := match i with
  | 18 => []
  | _ => vblocks v
theorem by9Φ_keep (F0 : List Nat) (B0 : Nat) (G : Nat) (v4 : Value) (ok : Bool) (st li lt lb sn : Int) (sa : Option Addr) (nn c : Nat) (L0 L1 L2 : List UInt8) (hF : ∀ z ∈ F0, z < B0) (n0 : Nat) (yy : Value) (F : List Nat) (w w' : World) (h : by9Φ B0 G v4 ok st li lt lb sn sa nn c L0 L1 L2 n0 yy w) (hx : Ext (F0 ++ F) w w') (hv : ∀ x ∈ by9vb n0 yy, x ∉ F) : by9Φ B0 G v4 ok st li lt lb sn sa nn c L0 L1 L2 n0 yy w' := by
  unfold by9Φ at h ⊢
  split at h <;> first | exact h | (
    obtain ⟨p, hp, rfl, hr⟩ := h
    refine ⟨p, hp, rfl, hr.keep hx (fun z hz hm => ?_)⟩
    rcases List.mem_append.1 hm with h1 | h1
    · have := hF z h1
      simp [vblocks] at hz
      omega
    · exact hv z hz h1)
def by9C (F0 : List Nat) (B0 : Nat) (G : Nat) (v4 : Value) (ok : Bool) (st li lt lb sn : Int) (sa : Option Addr) (nn c : Nat) (L0 L1 L2 : List UInt8) (s : Nat) (g : Nat → Value) (O : List Nat) (w : World) : Prop :=
  match s with
  | 0 => O = [] ∧ g 4 = v4 ∧ OwnB w v4 L0
  | 1 => O = [] ∧ g 52 = v4 ∧ OwnB w v4 L0
  | 2 => OwnB w (g 56) L1 ∧ ∀ z ∈ vblocks (g 56), z ∈ F0 ∨ (z ∈ O ∧ B0 ≤ z)
  | 3 => OwnB w (g 73) L2 ∧ ∀ z ∈ vblocks (g 73), z ∈ F0 ∨ (z ∈ O ∧ B0 ≤ z)
  | 4 => OwnB w (g 4) L2 ∧ ∀ z ∈ vblocks (g 4), z ∈ F0 ∨ (z ∈ O ∧ B0 ≤ z)
  | _ => True
theorem by9C_keep (F0 : List Nat) (B0 : Nat) (G : Nat) (v4 : Value) (ok : Bool) (st li lt lb sn : Int) (sa : Option Addr) (nn c : Nat) (L0 L1 L2 : List UInt8) (s : Nat) (g : Nat → Value) (O : List Nat) (w w' : World) (h : by9C F0 B0 G v4 ok st li lt lb sn sa nn c L0 L1 L2 s g O w) (hx : Ext [] w w') : by9C F0 B0 G v4 ok st li lt lb sn sa nn c L0 L1 L2 s g O w' := by
  unfold by9C at h ⊢
  split at h <;> first | exact h | exact ⟨h.1.keep hx (by simp), h.2⟩ | exact ⟨h.1, h.2.keep hx (by simp)⟩ | exact ⟨h.1, h.2.1, h.2.2.keep hx (by simp)⟩
def by15Φ (B0 : Nat) (G : Nat) (v4 : Value) (pt : Int) (dt L0 L1 L2 : List UInt8) (n : Nat) (yy : Value) (w : World) : Prop :=
  match n with
  | 0 => yy = v4
  | 1 => yy = .pointer (some ⟨G, 15, none⟩)
  | 2 => yy = .int .i64 pt
  | 3 => ∃ p, B0 ≤ p ∧ yy = .slice (some ⟨p, 0, none⟩) 1 1 ∧ Rd w 1 yy 1 (([pt]).map (Value.int .i64))
  | 5 => yy = .pointer (some ⟨G, 16, none⟩)
  | 6 => yy = str dt
  | 7 => ∃ p, B0 ≤ p ∧ yy = .slice (some ⟨p, 0, none⟩) 1 1 ∧ Rd w 1 yy 1 (([dt]).map str)
  | _ => True
def by15vb (i : Nat) (v : Value) : List Nat := vblocks v
theorem by15Φ_keep (F0 : List Nat) (B0 : Nat) (G : Nat) (v4 : Value) (pt : Int) (dt L0 L1 L2 : List UInt8) (hF : ∀ z ∈ F0, z < B0) (n0 : Nat) (yy : Value) (F : List Nat) (w w' : World) (h : by15Φ B0 G v4 pt dt L0 L1 L2 n0 yy w) (hx : Ext (F0 ++ F) w w') (hv : ∀ x ∈ by15vb n0 yy, x ∉ F) : by15Φ B0 G v4 pt dt L0 L1 L2 n0 yy w' := by
  unfold by15Φ at h ⊢
  split at h <;> first | exact h | (
    obtain ⟨p, hp, rfl, hr⟩ := h
    refine ⟨p, hp, rfl, hr.keep hx (fun z hz hm => ?_)⟩
    rcases List.mem_append.1 hm with h1 | h1
    · have := hF z h1
      simp [vblocks] at hz
      omega
    · exact hv z hz h1)
def by15C (F0 : List Nat) (B0 : Nat) (G : Nat) (v4 : Value) (pt : Int) (dt L0 L1 L2 : List UInt8) (s : Nat) (g : Nat → Value) (O : List Nat) (w : World) : Prop :=
  match s with
  | 0 => O = [] ∧ OwnB w v4 L0
  | 1 => O = [] ∧ g 88 = v4 ∧ OwnB w v4 L0
  | 2 => OwnB w (g 92) L1 ∧ ∀ z ∈ vblocks (g 92), z ∈ F0 ∨ (z ∈ O ∧ B0 ≤ z)
  | 3 => OwnB w (g 96) L2 ∧ ∀ z ∈ vblocks (g 96), z ∈ F0 ∨ (z ∈ O ∧ B0 ≤ z)
  | 4 => g 97 = str L2
  | 5 => g 2 = str L2
  | 6 => g 3 = .int .i64 0 ∧ g 2 = str L2
  | _ => True
theorem by15C_keep (F0 : List Nat) (B0 : Nat) (G : Nat) (v4 : Value) (pt : Int) (dt L0 L1 L2 : List UInt8) (s : Nat) (g : Nat → Value) (O : List Nat) (w w' : World) (h : by15C F0 B0 G v4 pt dt L0 L1 L2 s g O w) (hx : Ext [] w w') : by15C F0 B0 G v4 pt dt L0 L1 L2 s g O w' := by
  unfold by15C at h ⊢
  split at h <;> first | exact h | exact ⟨h.1.keep hx (by simp), h.2⟩ | exact ⟨h.1, h.2.keep hx (by simp)⟩ | exact ⟨h.1, h.2.1, h.2.2.keep hx (by simp)⟩
theorem encText_len3 (t : List UInt8) : (encText t).length ≤ t.length + 2 := by
  have : (cut16 t).length ≤ t.length := by unfold cut16; simp; omega
  simp [encText, be2]; omega
theorem ents_enc_len (es : List En) (h : ∀ e ∈ es, e.data.length ≤ 488) : (es.flatMap En.enc).length ≤ 502 * es.length := by
  induction es with
  | nil => simp
  | cons a l ih =>
    have h1 := ih (fun x hx => h x (by simp [hx]))
    have h2 := h a (by simp)
    have h3 := encText_len3 a.data
    rw [List.flatMap_cons, List.length_append, List.length_cons]
    have : (En.enc a).length ≤ 502 := by
      unfold En.enc
      rw [List.length_append, List.length_append, encNum_length, encNum_length]
      omega
    omega
theorem Rd.u32 {w : World} {a : Option Addr} {n c : Nat} {ss : List UInt32} (h : Rd w 1 (.slice a n c) n (u32s ss)) (k : Nat) (hk : k < ss.length) : ∃ q off, a = some ⟨q, off, none⟩ ∧ ∀ wr, Ext [] w wr → wr.cell? ⟨q, off + k, none⟩ = some (.int .u32 (ss[k].toNat : Int)) := by
  have hl : ss.length = n := by have := h.len; simp [u32s] at this; omega
  obtain ⟨q, off, rfl, hqw, hc⟩ := h.view (by omega)
  exact ⟨q, off, rfl, fun wr hx => hx.cell (by simp) (hc k _ (by rw [u32s, List.getElem?_map, List.getElem?_eq_getElem hk]; rfl))⟩
def byA (m : Ms) (es : List En) : List UInt8 := encNums [m.kind, m.frm, m.too, m.term, m.index, m.logT, m.last, m.commit, (es.length : Int)]
def byB (m : Ms) (es : List En) (k : Nat) : List UInt8 := byA m es ++ (es.take k).flatMap En.enc
def byC (m : Ms) (es : List En) (ss : List UInt32) (k : Nat) : List UInt8 := byB m es es.length ++ (encFlag m.ok ++ encNums [m.state, m.li, m.lt, m.lb, (ss.length : Int)]) ++ (ss.take k).flatMap encU
theorem by_all (m : Ms) (es : List En) (ss : List UInt32) : byC m es ss ss.length ++ encNums [m.part] ++ encTexts [m.data] = encM m es ss := by
  unfold byC byB byA encM encV mv
  rw [List.take_length, List.take_length, encTexts_one]
  simp [encNums]
theorem byB_len (m : Ms) (es : List En) (k : Nat) (h : ∀ e ∈ es, e.data.length ≤ 488) (he : es.length ≤ 4) : (byB m es k).length ≤ 3000 := by
  have h1 := ents_enc_len (es.take k) (fun e he => h e (List.mem_of_mem_take he))
  have h2 : (es.take k).length ≤ 4 := by rw [List.length_take]; omega
  have h3 : (byA m es).length = 54 := rfl
  unfold byB
  rw [List.length_append, h3]
  omega
theorem sums_enc_len (ss : List UInt32) : (ss.flatMap encU).length = 6 * ss.length := by
  induction ss with
  | nil => rfl
  | cons a l ih => rw [List.flatMap_cons, List.length_append, ih, List.length_cons]; unfold encU; rw [encNum_length]; omega
theorem byC_len (m : Ms) (es : List En) (ss : List UInt32) (k : Nat) (h : ∀ e ∈ es, e.data.length ≤ 488) (he : es.length ≤ 4) (hs : ss.length ≤ 64) : (byC m es ss k).length ≤ 4000 := by
  have h1 := byB_len m es es.length h he
  have h2 := sums_enc_len (ss.take k)
  have h3 : (ss.take k).length ≤ 64 := by rw [List.length_take]; omega
  have h4 : (encFlag m.ok ++ encNums [m.state, m.li, m.lt, m.lb, (ss.length : Int)]).length = 31 := rfl
  unfold byC
  rw [List.length_append, List.length_append, h4]
  omega
set_option maxRecDepth 100000 in
set_option maxHeartbeats 12800000 in
theorem bytes_any (m : Ms) (es : List En) (ss : List UInt32) (w : World) (h : MsAt w m es ss) (hfew : es.length ≤ 1000) :
    Calls Try.prog 21 #[.agg m.cells.toArray] w fun e w' => e = .returned (if RightM m es ss then .tuple #[str (encM m es ss), .int .i64 0] else .tuple #[str [], .int .i64 1]) ∧ Ext [] w w' := by
  have hln : es.length = m.en := by have := h.ents.len; have e3 := flatMap_len En.cells 3 ecells_len es; rw [e3] at this; omega
  have hls : ss.length = m.sn := by have := h.sums.len; simp [u32s] at this; omega
  obtain ⟨G, hG⟩ : ∃ G, G = w.heap.size := ⟨_, rfl⟩
  obtain ⟨W, hW⟩ : ∃ W, W = w.alloc (.cells m.cells.toArray 36) := ⟨_, rfl⟩
  have hB : Blk W G 36 m.cells := by rw [hW, hG]; exact Blk.new _ _ _
  have hxW : Ext [] w W := by rw [hW]; exact (Ext.refl _ _).alloc _
  have hrow : W.rangeAt G 0 m.cells := by
    have := World.rangeAt_new w m.cells 36
    rwa [← hW, ← hG] at this
  have hMs : MsAt W m es ss := ⟨h.nums, h.data, h.ents.keep hxW (by simp), h.entsok, h.sums.keep hxW (by simp)⟩
  have cr := right_any m es ss W hMs hfew
  obtain ⟨Y, hY⟩ : ∃ Y, Y = (if RightM m es ss then Value.tuple #[str (encM m es ss), .int .i64 0] else Value.tuple #[str [], .int .i64 1]) := ⟨_, rfl⟩
  rw [← hY]
  have HY := Hid.of hY
  clear hY
  go_enter Try.func21, Try.ntmps21
  go_upto_region 1 with fail
  rw [← hW, ← hG]
  have HXW := Hid.of hxW
  have HB := Hid.of hB
  have HMs := Hid.of hMs
  have HRow := Hid.of hrow
  have HLN := Hid.of hln
  have HLS := Hid.of hls
  have hGw : w.heap.size ≤ G := by omega
  clear hW hG hxW hB hMs hrow hln hls h
  by_cases hR : RightM m es ss
  · rw [decide_eq_true hR] at cr
    have hy := HY.out
    rw [if_pos hR] at hy
    have HY2 := Hid.of hy
    obtain ⟨-, -, hR1, hR2, -, hR3, hR4⟩ := hR
    have HR1 := Hid.of hR1
    have hen : m.en ≤ 4 := by rw [← HLN.out]; exact hR2
    have hsn : m.sn ≤ 64 := by rw [← HLS.out]; exact hR3
    clear hR1 hR2 hR3 hy
    go_wp2_with (first
      | (refine wpList_load_mid rfl 36 _ rfl G 0 rfl m.cells _ HRow.out Try.underlying36 rfl (by rw [mcells_len]; kernel_rfl) ?_)
      | (go_at_call 22; (with_reducible refine cr.mono ?_); rintro e w2 ⟨rfl, hx2⟩; have hB2 := HB.out.keep hx2 (by simp); have b0 : w2.cell? ⟨G, 0, none⟩ = some (.int .i64 m.kind) := hB2.c 0; have b1 : w2.cell? ⟨G, 1, none⟩ = some (.int .i64 m.frm) := hB2.c 1; have b2 : w2.cell? ⟨G, 2, none⟩ = some (.int .i64 m.too) := hB2.c 2; have b3 : w2.cell? ⟨G, 3, none⟩ = some (.int .i64 m.term) := hB2.c 3; have b4 : w2.cell? ⟨G, 4, none⟩ = some (.int .i64 m.index) := hB2.c 4; have b5 : w2.cell? ⟨G, 5, none⟩ = some (.int .i64 m.logT) := hB2.c 5; have b6 : w2.cell? ⟨G, 6, none⟩ = some (.int .i64 m.last) := hB2.c 6; have b7 : w2.cell? ⟨G, 7, none⟩ = some (.int .i64 m.commit) := hB2.c 7; have b8 : w2.cell? ⟨G, 8, none⟩ = some (.slice m.ea m.en m.ec) := hB2.c 8; have HX2 := Hid.of hx2; clear hx2 cr hB2)
      | (go_at_call 24; (with_reducible refine (num_any (.slice none 0 0) [] _ 9 9 [m.kind, m.frm, m.too, m.term, m.index, m.logT, m.last, m.commit, (m.en : Int)] _ (by omega) (by simp) (OwnB.nil _) (Rd.lit w2 #[.int .i64 m.kind, .int .i64 m.frm, .int .i64 m.too, .int .i64 m.term, .int .i64 m.index, .int .i64 m.logT, .int .i64 m.last, .int .i64 m.commit, .int .i64 (m.en : Int)] 3 1 9 rfl (by unfold maxLen; omega)) (by simp [vblocks])).mono ?_); rintro e w3 ⟨v3, rfl, ho3, hx3, hv3⟩; have HX3 := Hid.of ((HX2.out.alloc _).then0 hx3); have HO3 := Hid.of ho3; have hvw : ∀ z ∈ vblocks v3, w2.heap.size ≤ z := (fun z hz => by { rcases hv3 z hz with h | h; · { simp [vblocks] at h }; · { simp at h; omega } }); have HV3 := Hid.of hvw; have b8 : w3.cell? ⟨G, 8, none⟩ = some (.slice m.ea m.en m.ec) := (HB.out.keep HX3.out (by simp)).c 8; clear ho3 hx3 hv3 hvw))
    have hb0 : byB m es 0 = [] ++ encNums [m.kind, m.frm, m.too, m.term, m.index, m.logT, m.last, m.commit, (m.en : Int)] := by
      unfold byB byA
      rw [← HLN.out]; simp
    have HB0 := Hid.of hb0
    clear hb0 b8
    go_loopw [4, 36] (fun u4 u36 wr => ∃ (k : Nat), u36 = .int .i64 (k : Int) ∧ k ≤ m.en ∧ Hid (OwnB wr u4 (byB m es k)) ∧ Hid (Ext [] W wr) ∧ Hid (∀ z ∈ vblocks u4, W.heap.size ≤ z)) (fun _ u36 _ => m.en - (intOf u36).toNat)
    case atStart => exact ⟨0, rfl, by omega, show OwnB _ _ _ by rw [HB0.out]; exact HO3.out, HX3.out, fun z hz => by have := HV3.out z hz; have := HX2.out.size; omega⟩
    case round =>
      obtain ⟨k, rfl, hk, hO, hX, hV⟩ := hrel
      by_cases hlt : k < m.en
      · have hkm : k < es.length := by rw [HLN.out]; exact hlt
        obtain ⟨q, off, hea, hc⟩ := HMs.out.ents.ent k hkm
        obtain ⟨x, hx⟩ : ∃ x, x = es[k] := ⟨_, rfl⟩
        rw [← hx] at hc
        obtain ⟨d0, d1, d2⟩ := hc wr hX.out
        have hxl : x.data.length ≤ 488 := by rw [hx]; exact (HR1.out _ (List.getElem_mem hkm)).2.2
        have HXE := Hid.of hx
        rw [hea]
        clear hx hc hea
        obtain ⟨xi, xt, xd⟩ := x
        simp only at d0 d1 d2 hxl
        have hL0 := byB_len m es k (fun e he => (HR1.out e he).2.2) (by rw [HLN.out]; exact hen)
        have hL2 := byB_len m es (k + 1) (fun e he => (HR1.out e he).2.2) (by rw [HLN.out]; exact hen)
        have hsu : byB m es (k + 1) = (byB m es k ++ encNums [xi, xt]) ++ encTexts [xd] := by
          unfold byB
          rw [List.take_add_one, List.getElem?_eq_getElem hkm, ← HXE.out, encTexts_one]
          simp [En.enc, encNums]
        obtain ⟨L0, hl0⟩ : ∃ L, L = byB m es k := ⟨_, rfl⟩
        obtain ⟨L1, hl1⟩ : ∃ L, L = L0 ++ encNums [xi, xt] := ⟨_, rfl⟩
        obtain ⟨L2, hl2⟩ : ∃ L, L = L1 ++ encTexts [xd] := ⟨_, rfl⟩
        have hl1n : L1.length ≤ 4000 := by rw [hl1, hl0, List.length_append, encNums_length]; simp; omega
        rw [← hl0] at hL0 hsu
        rw [← hl1, ← hl2] at hsu
        have HL1 := Hid.of hl1
        have HL2 := Hid.of hl2
        have HSU := Hid.of hsu
        have hO' := hO.out
        rw [← hl0] at hO'
        obtain ⟨W7, hW7⟩ : ∃ x, x = wr.alloc (.cells #[.int .i64 xi, .int .i64 xt, str xd] 60) := ⟨_, rfl⟩
        have hX7 : Ext [] wr W7 := by rw [hW7]; exact (Ext.refl _ _).alloc _
        obtain ⟨F0, hFe⟩ : ∃ F, F = vblocks u4 := ⟨_, rfl⟩
        have hV0 : ∀ z ∈ vblocks u4, z ∈ F0 := fun z hz => by rw [hFe]; exact hz
        have hlto := hO'.lt
        have hF0' : ∀ z ∈ F0, z < wr.heap.size := fun z hz => hlto z (by rw [← hFe]; exact hz)
        have hs7 := hX7.size
        have hF0 : ∀ z ∈ F0, z < W7.heap.size := fun z hz => by have := hF0' z hz; omega
        have HV0 : Hid (OwnB W7 u4 L0) := hO'.keep hX7 (by simp)
        have hBx : Blk W7 wr.heap.size 60 [.int .i64 xi, .int .i64 xt, str xd] := by rw [hW7]; exact Blk.new _ _ #[.int .i64 xi, .int .i64 xt, str xd]
        have hXl := hBx.lt
        have hXF : wr.heap.size ∉ F0 := fun hm => by have := hF0' _ hm; omega
        obtain ⟨X, hXe⟩ : ∃ X, X = wr.heap.size := ⟨_, rfl⟩
        rw [← hXe] at hBx hXl hXF
        have cX0 : ∀ w', Ext F0 W7 w' → w'.cell? ⟨X, 0, none⟩ = some (.int .i64 xi) := fun w' hx => (hBx.keep hx hXF).c 0
        have cX1 : ∀ w', Ext F0 W7 w' → w'.cell? ⟨X, 1, none⟩ = some (.int .i64 xt) := fun w' hx => (hBx.keep hx hXF).c 1
        have cX2 : ∀ w', Ext F0 W7 w' → w'.cell? ⟨X, 2, none⟩ = some (str xd) := fun w' hx => (hBx.keep hx hXF).c 2
        have HX7 := Hid.of hX7
        have HVF : Hid (∀ z ∈ F0, W.heap.size ≤ z) := fun z hz => hV.out z (by rw [← hFe]; exact hz)
        have HW7 := Hid.of hW7
        have HXe := Hid.of hXe
        clear hl0 hl1 hl2 hsu hO' hW7 hX7 hFe hlto hF0' hs7 hBx hXF hXe hL2
        go_wp2_with fail
        rw [← HW7.out, ← HXe.out]
        refine wp_region_plan3 by7vb F0 [40, 41, 42, 43, 44, 45, 46, 47, 48, 49, 50, 4] [0, 6, 10, 11] (by7Φ W7.heap.size X u4 xi xt xd L0 L1 L2) (by7C F0 W7.heap.size X u4 xi xt xd L0 L1 L2) (by kernel_rfl) (by kernel_rfl) (by kernel_rfl)
          (fun n0 v' F' w1 w2 h hx hv => by7Φ_keep F0 W7.heap.size X u4 xi xt xd L0 L1 L2 hF0 n0 v' F' w1 w2 h hx hv) (fun s g O w1 w2 h hx => by7C_keep F0 W7.heap.size X u4 xi xt xd L0 L1 L2 s g O w1 w2 h hx) ?_ (fun w' hx => ⟨rfl, rfl, HV0.out.keep hx (by simp)⟩) ?_ ?_
        · intro s g g' O w1 h hg
          have e40 : g 40 = g' 40 := hg 0 rfl
          have e46 : g 46 = g' 46 := hg 6 rfl
          have e50 : g 50 = g' 50 := hg 10 rfl
          have e4 : g 4 = g' 4 := hg 11 rfl
          unfold by7C at h ⊢
          rw [← e40, ← e46, ← e50, ← e4]
          exact h
        · refine ⟨⟨fun h => (by cases h), fun _ => ?f0⟩, ⟨fun _ => ?f1, fun h => by cases h⟩, ⟨fun _ => ?f2, fun h => by cases h⟩, ⟨fun _ => ?f3, fun h => by cases h⟩, ⟨fun _ => ?f4, fun h => by cases h⟩, ⟨fun _ => ?f5, fun h => by cases h⟩, ⟨fun h => (by cases h), fun _ => ?f6⟩, ⟨fun _ => ?f7, fun h => by cases h⟩, ⟨fun _ => ?f8, fun h => by cases h⟩, ⟨fun _ => ?f9, fun h => by cases h⟩, ⟨fun h => (by cases h), fun _ => ?f10⟩, ⟨fun h => (by cases h), fun _ => ?f11⟩, trivial⟩
          case f1 =>
            intro g w' hx hd
            generalize hA : mkAct _ _ g = A
            have h6 : A.tmps[6]?.getD undef = .pointer (some ⟨X, 0, none⟩) := by rw [← hA]; exact mkAct_out2 _ _ _ _ _ rfl rfl
            refine step_val (v := .pointer (some ⟨X, 0, none⟩)) (w' := w') ?_ ⟨_, rfl, Ext.refl _ _, rfl, by have := hx.size; simp [by7vb, vblocks]; omega⟩
            simp [execOp, h6, Result.andThen, go_sem]
          case f2 =>
            intro g w' hx hd
            have e41 : g 41 = .pointer (some ⟨X, 0, none⟩) := hd ⟨1, .data⟩ (by simp) rfl rfl
            generalize hA : mkAct _ _ g = A
            have h41 : A.tmps[41]?.getD undef = .pointer (some ⟨X, 0, none⟩) := by rw [← hA, mkAct_in2 _ _ _ _ rfl rfl]; exact e41
            have c := cX0 w' hx
            refine step_val (v := .int .i64 xi) (w' := w') ?_ ⟨_, rfl, Ext.refl _ _, rfl, by simp [by7vb, vblocks]⟩
            simp [execOp, h41, c, Result.andThen, go_sem]
          case f3 =>
            intro g w' hx hd
            generalize hA : mkAct _ _ g = A
            have h6 : A.tmps[6]?.getD undef = .pointer (some ⟨X, 0, none⟩) := by rw [← hA]; exact mkAct_out2 _ _ _ _ _ rfl rfl
            refine step_val (v := .pointer (some ⟨X, 1, none⟩)) (w' := w') ?_ ⟨_, rfl, Ext.refl _ _, rfl, by have := hx.size; simp [by7vb, vblocks]; omega⟩
            simp [execOp, h6, Result.andThen, go_sem]
          case f4 =>
            intro g w' hx hd
            have e43 : g 43 = .pointer (some ⟨X, 1, none⟩) := hd ⟨3, .data⟩ (by simp) rfl rfl
            generalize hA : mkAct _ _ g = A
            have h43 : A.tmps[43]?.getD undef = .pointer (some ⟨X, 1, none⟩) := by rw [← hA, mkAct_in2 _ _ _ _ rfl rfl]; exact e43
            have c := cX1 w' hx
            refine step_val (v := .int .i64 xt) (w' := w') ?_ ⟨_, rfl, Ext.refl _ _, rfl, by simp [by7vb, vblocks]⟩
            simp [execOp, h43, c, Result.andThen, go_sem]
          case f5 =>
            intro g w' hx hd
            have e42 : g 42 = .int .i64 xi := hd ⟨2, .data⟩ (by simp) rfl rfl
            have e44 : g 44 = .int .i64 xt := hd ⟨4, .data⟩ (by simp) rfl rfl
            generalize hA : mkAct _ _ g = A
            have h42 : A.tmps[42]?.getD undef = .int .i64 xi := by rw [← hA, mkAct_in2 _ _ _ _ rfl rfl]; exact e42
            have h44 : A.tmps[44]?.getD undef = .int .i64 xt := by rw [← hA, mkAct_in2 _ _ _ _ rfl rfl]; exact e44
            refine step_val (v := .slice (some ⟨w'.heap.size, 0, none⟩) 2 2) (w' := w'.alloc (.cells #[.int .i64 xi, .int .i64 xt] 3)) ?_ ⟨_, rfl, (Ext.refl _ _).alloc _, ⟨w'.heap.size, hx.size, rfl, Rd.litg #[.int .i64 xi, .int .i64 xt] 3 1 2 rfl (by unfold maxLen; omega) rfl⟩, by simp [by7vb, vblocks]⟩
            simp [execOp, h42, h44, Result.andThen, go_sem]
          case f7 =>
            intro g w' hx hd
            generalize hA : mkAct _ _ g = A
            have h6 : A.tmps[6]?.getD undef = .pointer (some ⟨X, 0, none⟩) := by rw [← hA]; exact mkAct_out2 _ _ _ _ _ rfl rfl
            refine step_val (v := .pointer (some ⟨X, 2, none⟩)) (w' := w') ?_ ⟨_, rfl, Ext.refl _ _, rfl, by have := hx.size; simp [by7vb, vblocks]; omega⟩
            simp [execOp, h6, Result.andThen, go_sem]
          case f8 =>
            intro g w' hx hd
            have e47 : g 47 = .pointer (some ⟨X, 2, none⟩) := hd ⟨7, .data⟩ (by simp) rfl rfl
            generalize hA : mkAct _ _ g = A
            have h47 : A.tmps[47]?.getD undef = .pointer (some ⟨X, 2, none⟩) := by rw [← hA, mkAct_in2 _ _ _ _ rfl rfl]; exact e47
            have c := cX2 w' hx
            refine step_val (v := str xd) (w' := w') ?_ ⟨_, rfl, Ext.refl _ _, rfl, by simp [by7vb, vblocks]⟩
            simp [execOp, h47, c, Result.andThen, go_sem]
          case f9 =>
            intro g w' hx hd
            have e48 : g 48 = str xd := hd ⟨8, .data⟩ (by simp) rfl rfl
            generalize hA : mkAct _ _ g = A
            have h48 : A.tmps[48]?.getD undef = str xd := by rw [← hA, mkAct_in2 _ _ _ _ rfl rfl]; exact e48
            refine step_val (v := .slice (some ⟨w'.heap.size, 0, none⟩) 1 1) (w' := w'.alloc (.cells #[str xd] 9)) ?_ ⟨_, rfl, (Ext.refl _ _).alloc _, ⟨w'.heap.size, hx.size, rfl, Rd.litg #[str xd] 9 1 1 rfl (by unfold maxLen; omega) rfl⟩, by simp [by7vb, vblocks]⟩
            simp [execOp, h48, Result.andThen, go_sem]
          case f0 =>
            intro s g O w' hs hx hd hsp hC hO
            rcases s with _ | _ | _ | _ | s <;> simp at hs
            obtain ⟨rfl, ev, ho⟩ := hC
            generalize hA : mkAct _ _ g = A
            have h2 : A.tmps[4]?.getD undef = u4 := by rw [← hA, mkAct_in2 _ _ _ _ rfl rfl]; exact ev
            refine chain_k3 (Cn := fun v O' w'' => by7C F0 W7.heap.size X u4 xi xt xd L0 L1 L2 1 (updG g 40 v) O' w'') (fun K hK => ?_)
            clear hsp
            go_simp
            exact hK u4 [] w' (Ext.refl _ _) ⟨rfl, rfl, ho⟩ (by simp)
          case f6 =>
            intro s g O w' hs hx hd hsp hC hO
            rcases s with _ | _ | _ | _ | s <;> simp at hs
            obtain ⟨rfl, ev, ho⟩ := hC
            obtain ⟨p, hp, e6, hr⟩ := hd ⟨5, .data⟩ (by simp) rfl rfl
            have e6' : g 45 = .slice (some ⟨p, 0, none⟩) 2 2 := e6
            rw [show g (slotOf _ 5) = g 45 from rfl, e6'] at hr
            generalize hA : mkAct _ _ g = A
            have h1 : A.tmps[45]?.getD undef = .slice (some ⟨p, 0, none⟩) 2 2 := by rw [← hA, mkAct_in2 _ _ _ _ rfl rfl]; exact e6'
            have h2 : A.tmps[40]?.getD undef = u4 := by rw [← hA, mkAct_in2 _ _ _ _ rfl rfl]; exact ev
            refine chain_k3 (Cn := fun v O' w'' => by7C F0 W7.heap.size X u4 xi xt xd L0 L1 L2 2 (updG g 46 v) O' w'') (fun K hK => ?_)
            go_simp
            have hsz := hx.size
            refine (num_any u4 L0 _ 2 2 [xi, xt] w' (by omega) (by omega) ho hr (fun x hx1 hx2 => ?_)).mono ?_
            · have := hF0 _ (hV0 x hx2)
              simp [vblocks] at hx1
              omega
            rintro e w2 ⟨v', rfl, ho2, hx2, hv⟩
            rw [← HL1.out] at ho2
            refine hK v' ((vblocks v').filter fun z => decide (z ∉ F0)) w2 (hx2.mono (fun z hz => .inl ?_)) ⟨ho2, fun z hz => ?_⟩ (fun z hz => ?_)
            · exact List.mem_append_left _ (hV0 z hz)
            · by_cases hzF : z ∈ F0
              · exact .inl hzF
              · refine .inr ⟨List.mem_filter.2 ⟨hz, by simpa using hzF⟩, ?_⟩
                rcases hv z hz with h | h
                · exact absurd (hV0 z h) hzF
                · omega
            · obtain ⟨hz1, hz2⟩ := List.mem_filter.1 hz
              refine ⟨?_, ho2.lt z hz1⟩
              rcases hv z hz1 with h | h
              · exact absurd (hV0 z h) (by simpa using hz2)
              · exact .inr h
          case f10 =>
            intro s g O w' hs hx hd hsp hC hO
            rcases s with _ | _ | _ | _ | s <;> simp at hs
            obtain ⟨ho, hvO⟩ := hC
            obtain ⟨p, hp, e6, hr⟩ := hd ⟨9, .data⟩ (by simp) rfl rfl
            have e6' : g 49 = .slice (some ⟨p, 0, none⟩) 1 1 := e6
            have hqO : ∀ x ∈ vblocks (.slice (some ⟨p, 0, none⟩) 1 1), x ∉ O := by
              have := hsp ⟨9, .data⟩ (by simp) rfl rfl
              rw [show g (slotOf _ 9) = g 49 from rfl, e6'] at this
              exact this
            rw [show g (slotOf _ 9) = g 49 from rfl, e6'] at hr
            generalize hA : mkAct _ _ g = A
            have h1 : A.tmps[49]?.getD undef = .slice (some ⟨p, 0, none⟩) 1 1 := by rw [← hA, mkAct_in2 _ _ _ _ rfl rfl]; exact e6'
            have h2 : A.tmps[46]?.getD undef = g 46 := by rw [← hA, mkAct_in2 _ _ _ _ rfl rfl]
            refine chain_k3 (Cn := fun v O' w'' => by7C F0 W7.heap.size X u4 xi xt xd L0 L1 L2 3 (updG g 50 v) O' w'') (fun K hK => ?_)
            obtain ⟨v0', hv0'⟩ : ∃ v, v = g 46 := ⟨_, rfl⟩
            rw [← hv0'] at h2 ho hvO
            clear hv0' e6 e6' hsp
            go_simp
            have hsz := hx.size
            refine (text_any v0' L1 _ 1 1 [xd] w' (by omega) (by omega) ho hr (fun x hx1 hx2 => ?_)).mono ?_
            · rcases hvO x hx2 with h | h
              · have := hF0 _ h
                simp [vblocks] at hx1
                omega
              · exact hqO x hx1 h.1
            rintro e w2 ⟨v', rfl, ho2, hx2, hv⟩
            rw [← HL2.out] at ho2
            refine hK v' ((vblocks v').filter fun z => decide (z ∉ F0)) w2 (hx2.mono (fun z hz => .inl ?_)) ⟨ho2, fun z hz => ?_⟩ (fun z hz => ?_)
            · rcases hvO z hz with h | h
              · exact List.mem_append_left _ h
              · exact List.mem_append_right _ h.1
            · by_cases hzF : z ∈ F0
              · exact .inl hzF
              · refine .inr ⟨List.mem_filter.2 ⟨hz, by simpa using hzF⟩, ?_⟩
                rcases hv z hz with h | h
                · exact ((hvO z h).resolve_left hzF).2
                · omega
            · obtain ⟨hz1, hz2⟩ := List.mem_filter.1 hz
              refine ⟨?_, ho2.lt z hz1⟩
              rcases hv z hz1 with h | h
              · exact .inl ((hvO z h).resolve_left (by simpa using hz2)).1
              · exact .inr h
          case f11 =>
            intro s g O w' hs hx hd hsp hC hO
            rcases s with _ | _ | _ | _ | s <;> simp at hs
            obtain ⟨ho, hvO⟩ := hC
            generalize hA : mkAct _ _ g = A
            have h2 : A.tmps[50]?.getD undef = g 50 := by rw [← hA, mkAct_in2 _ _ _ _ rfl rfl]
            refine chain_k3 (Cn := fun v O' w'' => by7C F0 W7.heap.size X u4 xi xt xd L0 L1 L2 4 (updG g 4 v) O' w'') (fun K hK => ?_)
            obtain ⟨v0', hv0'⟩ : ∃ v, v = g 50 := ⟨_, rfl⟩
            rw [← hv0'] at h2 ho hvO
            clear hv0' hsp
            go_simp
            exact hK v0' O w' (Ext.refl _ _) ⟨ho, hvO⟩ (fun z hz => ⟨.inl hz, (hO z hz).2⟩)
        · intro g O w5 hx5 hC hd
          obtain ⟨ho5, hv5⟩ := hC
          have HO5 := Hid.of ho5
          have HV5 := Hid.of hv5
          have HX5 := Hid.of hx5
          clear ho5 hv5 hx5 hd cX0 cX1 cX2 hXl hF0 hV0 d0 d1 d2
          unfold mkAct
          simp only [List.zipIdx_cons, List.zipIdx_nil, List.map_cons, List.map_nil, Nat.zero_add, Nat.reduceAdd, List.contains_cons, List.contains_nil, Nat.reduceBEq, Bool.or_false, Bool.or_true, ↓reduceIte, Bool.false_eq_true]
          go_wp2
          refine ⟨⟨k + 1, by congr 1, by omega, show OwnB _ _ _ by rw [HSU.out]; exact HO5.out, (hX.out.then0 HX7.out).trans HX5.out (fun z hz => .inr (HVF.out z hz)), fun z hz => ?_⟩, by simp [intOf]; omega⟩
          rcases HV5.out z hz with h | h
          · exact HVF.out z h
          · have h1 := hX.out.size; have h2 := HX7.out.size; have h3 := h.2; omega
      · obtain rfl : k = m.en := by omega
        have hBr := HB.out.keep hX.out (by simp)
        have hGr := hBr.lt
        have hGl := HB.out.lt
        have hO' := hO.out
        obtain ⟨F0, hFe⟩ : ∃ F, F = vblocks u4 := ⟨_, rfl⟩
        have hV0 : ∀ z ∈ vblocks u4, z ∈ F0 := fun z hz => by rw [hFe]; exact hz
        have hlto := hO'.lt
        have hF0 : ∀ z ∈ F0, z < wr.heap.size := fun z hz => hlto z (by rw [← hFe]; exact hz)
        have HVF : Hid (∀ z ∈ F0, W.heap.size ≤ z) := fun z hz => hV.out z (by rw [← hFe]; exact hz)
        have hGF : G ∉ F0 := fun hm => by have := HVF.out _ hm; omega
        obtain ⟨L0, hl0⟩ : ∃ L, L = byB m es m.en := ⟨_, rfl⟩
        obtain ⟨L1, hl1⟩ : ∃ L, L = L0 ++ encFlags [m.ok] := ⟨_, rfl⟩
        obtain ⟨L2, hl2⟩ : ∃ L, L = L1 ++ encNums [m.state, m.li, m.lt, m.lb, (m.sn : Int)] := ⟨_, rfl⟩
        have hL0 := byB_len m es m.en (fun e he => (HR1.out e he).2.2) (by rw [HLN.out]; exact hen)
        rw [← hl0] at hL0 hO'
        have hl1n : L1.length ≤ 4000 := by rw [hl1, List.length_append]; simp [encFlags, encFlag]; omega
        have hsu : byC m es ss 0 = L2 := by
          unfold byC
          rw [hl2, hl1, hl0, ← HLN.out, ← HLS.out]
          simp [encFlags]
        have HL1 := Hid.of hl1
        have HL2 := Hid.of hl2
        have HSU := Hid.of hsu
        have HV0 := Hid.of hO'
        have cG9 : ∀ w', Ext F0 wr w' → w'.cell? ⟨G, 9, none⟩ = some (.bool m.ok) := fun w' hx => (hBr.keep hx hGF).c 9
        have cG10 : ∀ w', Ext F0 wr w' → w'.cell? ⟨G, 10, none⟩ = some (.int .i64 m.state) := fun w' hx => (hBr.keep hx hGF).c 10
        have cG11 : ∀ w', Ext F0 wr w' → w'.cell? ⟨G, 11, none⟩ = some (.int .i64 m.li) := fun w' hx => (hBr.keep hx hGF).c 11
        have cG12 : ∀ w', Ext F0 wr w' → w'.cell? ⟨G, 12, none⟩ = some (.int .i64 m.lt) := fun w' hx => (hBr.keep hx hGF).c 12
        have cG13 : ∀ w', Ext F0 wr w' → w'.cell? ⟨G, 13, none⟩ = some (.int .i64 m.lb) := fun w' hx => (hBr.keep hx hGF).c 13
        have cG14 : ∀ w', Ext F0 wr w' → w'.cell? ⟨G, 14, none⟩ = some (.slice m.sa m.sn m.sc) := fun w' hx => (hBr.keep hx hGF).c 14
        clear hl0 hl1 hl2 hsu hO' hFe hlto hBr hO
        go_wp2_with fail
        refine wp_region_plan3 by9vb F0 [52, 53, 54, 55, 56, 57, 58, 59, 60, 61, 62, 63, 64, 65, 66, 67, 68, 69, 70, 71, 72, 73, 4] [0, 4, 21, 22] (by9Φ wr.heap.size G u4 m.ok m.state m.li m.lt m.lb (m.sn : Int) m.sa m.sn m.sc L0 L1 L2) (by9C F0 wr.heap.size G u4 m.ok m.state m.li m.lt m.lb (m.sn : Int) m.sa m.sn m.sc L0 L1 L2) (by kernel_rfl) (by kernel_rfl) (by kernel_rfl)
          (fun n0 v' F' w1 w2 h hx hv => by9Φ_keep F0 wr.heap.size G u4 m.ok m.state m.li m.lt m.lb (m.sn : Int) m.sa m.sn m.sc L0 L1 L2 hF0 n0 v' F' w1 w2 h hx hv) (fun s g O w1 w2 h hx => by9C_keep F0 wr.heap.size G u4 m.ok m.state m.li m.lt m.lb (m.sn : Int) m.sa m.sn m.sc L0 L1 L2 s g O w1 w2 h hx) ?_ (fun w' hx => ⟨rfl, rfl, HV0.out.keep hx (by simp)⟩) ?_ ?_
        · intro s g g' O w1 h hg
          have e52 : g 52 = g' 52 := hg 0 rfl
          have e56 : g 56 = g' 56 := hg 4 rfl
          have e73 : g 73 = g' 73 := hg 21 rfl
          have e4 : g 4 = g' 4 := hg 22 rfl
          unfold by9C at h ⊢
          rw [← e52, ← e56, ← e73, ← e4]
          exact h
        · refine ⟨⟨fun h => (by cases h), fun _ => ?f0⟩, ⟨fun _ => ?f1, fun h => by cases h⟩, ⟨fun _ => ?f2, fun h => by cases h⟩, ⟨fun _ => ?f3, fun h => by cases h⟩, ⟨fun h => (by cases h), fun _ => ?f4⟩, ⟨fun _ => ?f5, fun h => by cases h⟩, ⟨fun _ => ?f6, fun h => by cases h⟩, ⟨fun _ => ?f7, fun h => by cases h⟩, ⟨fun _ => ?f8, fun h => by cases h⟩, ⟨fun _ => ?f9, fun h => by cases h⟩, ⟨fun _ => ?f10, fun h => by cases h⟩, ⟨fun _ => ?f11, fun h => by cases h⟩, ⟨fun _ => ?f12, fun h => by cases h⟩, ⟨fun _ => ?f13, fun h => by cases h⟩, ⟨fun _ => ?f14, fun h => by cases h⟩, ⟨fun _ => ?f15, fun h => by cases h⟩, ⟨fun _ => ?f16, fun h => by cases h⟩, ⟨fun _ => ?f17, fun h => by cases h⟩, ⟨fun _ => ?f18, fun h => by cases h⟩, ⟨fun _ => ?f19, fun h => by cases h⟩, ⟨fun _ => ?f20, fun h => by cases h⟩, ⟨fun h => (by cases h), fun _ => ?f21⟩, ⟨fun h => (by cases h), fun _ => ?f22⟩, trivial⟩
          case f1 =>
            intro g w' hx hd
            generalize hA : mkAct _ _ g = A
            have h1 : A.tmps[1]?.getD undef = .pointer (some ⟨G, 0, none⟩) := by rw [← hA]; exact mkAct_out2 _ _ _ _ _ rfl rfl
            refine step_val (v := .pointer (some ⟨G, 9, none⟩)) (w' := w') ?_ ⟨_, rfl, Ext.refl _ _, rfl, by have := hx.size; simp [by9vb, vblocks]; omega⟩
            simp [execOp, h1, Result.andThen, go_sem]
          case f2 =>
            intro g w' hx hd
            have e53 : g 53 = .pointer (some ⟨G, 9, none⟩) := hd ⟨1, .data⟩ (by simp) rfl rfl
            generalize hA : mkAct _ _ g = A
            have h53 : A.tmps[53]?.getD undef = .pointer (some ⟨G, 9, none⟩) := by rw [← hA, mkAct_in2 _ _ _ _ rfl rfl]; exact e53
            have c := cG9 w' hx
            refine step_val (v := .bool m.ok) (w' := w') ?_ ⟨_, rfl, Ext.refl _ _, rfl, by simp [by9vb, vblocks]⟩
            simp [execOp, h53, c, Result.andThen, go_sem]
          case f3 =>
            intro g w' hx hd
            have e54 : g 54 = .bool m.ok := hd ⟨2, .data⟩ (by simp) rfl rfl
            generalize hA : mkAct _ _ g = A
            have h54 : A.tmps[54]?.getD undef = .bool m.ok := by rw [← hA, mkAct_in2 _ _ _ _ rfl rfl]; exact e54
            refine step_val (v := .slice (some ⟨w'.heap.size, 0, none⟩) 1 1) (w' := w'.alloc (.cells #[.bool m.ok] 4)) ?_ ⟨_, rfl, (Ext.refl _ _).alloc _, ⟨w'.heap.size, hx.size, rfl, Rd.litg #[.bool m.ok] 4 1 1 rfl (by unfold maxLen; omega) rfl⟩, by simp [by9vb, vblocks]⟩
            simp [execOp, h54, Result.andThen, go_sem]
          case f5 =>
            intro g w' hx hd
            generalize hA : mkAct _ _ g = A
            have h1 : A.tmps[1]?.getD undef = .pointer (some ⟨G, 0, none⟩) := by rw [← hA]; exact mkAct_out2 _ _ _ _ _ rfl rfl
            refine step_val (v := .pointer (some ⟨G, 10, none⟩)) (w' := w') ?_ ⟨_, rfl, Ext.refl _ _, rfl, by have := hx.size; simp [by9vb, vblocks]; omega⟩
            simp [execOp, h1, Result.andThen, go_sem]
          case f6 =>
            intro g w' hx hd
            have e57 : g 57 = .pointer (some ⟨G, 10, none⟩) := hd ⟨5, .data⟩ (by simp) rfl rfl
            generalize hA : mkAct _ _ g = A
            have h57 : A.tmps[57]?.getD undef = .pointer (some ⟨G, 10, none⟩) := by rw [← hA, mkAct_in2 _ _ _ _ rfl rfl]; exact e57
            have c := cG10 w' hx
            refine step_val (v := .int .i64 m.state) (w' := w') ?_ ⟨_, rfl, Ext.refl _ _, rfl, by simp [by9vb, vblocks]⟩
            simp [execOp, h57, c, Result.andThen, go_sem]
          case f7 =>
            intro g w' hx hd
            generalize hA : mkAct _ _ g = A
            have h1 : A.tmps[1]?.getD undef = .pointer (some ⟨G, 0, none⟩) := by rw [← hA]; exact mkAct_out2 _ _ _ _ _ rfl rfl
            refine step_val (v := .pointer (some ⟨G, 11, none⟩)) (w' := w') ?_ ⟨_, rfl, Ext.refl _ _, rfl, by have := hx.size; simp [by9vb, vblocks]; omega⟩
            simp [execOp, h1, Result.andThen, go_sem]
          case f8 =>
            intro g w' hx hd
            have e59 : g 59 = .pointer (some ⟨G, 11, none⟩) := hd ⟨7, .data⟩ (by simp) rfl rfl
            generalize hA : mkAct _ _ g = A
            have h59 : A.tmps[59]?.getD undef = .pointer (some ⟨G, 11, none⟩) := by rw [← hA, mkAct_in2 _ _ _ _ rfl rfl]; exact e59
            refine step_val (v := .pointer (some ⟨G, 11, none⟩)) (w' := w') ?_ ⟨_, rfl, Ext.refl _ _, rfl, by have := hx.size; simp [by9vb, vblocks]; omega⟩
            simp [execOp, h59, Result.andThen, go_sem]
          case f9 =>
            intro g w' hx hd
            have e60 : g 60 = .pointer (some ⟨G, 11, none⟩) := hd ⟨8, .data⟩ (by simp) rfl rfl
            generalize hA : mkAct _ _ g = A
            have h60 : A.tmps[60]?.getD undef = .pointer (some ⟨G, 11, none⟩) := by rw [← hA, mkAct_in2 _ _ _ _ rfl rfl]; exact e60
            have c := cG11 w' hx
            refine step_val (v := .int .i64 m.li) (w' := w') ?_ ⟨_, rfl, Ext.refl _ _, rfl, by simp [by9vb, vblocks]⟩
            simp [execOp, h60, c, Result.andThen, go_sem]
          case f10 =>
            intro g w' hx hd
            generalize hA : mkAct _ _ g = A
            have h1 : A.tmps[1]?.getD undef = .pointer (some ⟨G, 0, none⟩) := by rw [← hA]; exact mkAct_out2 _ _ _ _ _ rfl rfl
            refine step_val (v := .pointer (some ⟨G, 11, none⟩)) (w' := w') ?_ ⟨_, rfl, Ext.refl _ _, rfl, by have := hx.size; simp [by9vb, vblocks]; omega⟩
            simp [execOp, h1, Result.andThen, go_sem]
          case f11 =>
            intro g w' hx hd
            have e62 : g 62 = .pointer (some ⟨G, 11, none⟩) := hd ⟨10, .data⟩ (by simp) rfl rfl
            generalize hA : mkAct _ _ g = A
            have h62 : A.tmps[62]?.getD undef = .pointer (some ⟨G, 11, none⟩) := by rw [← hA, mkAct_in2 _ _ _ _ rfl rfl]; exact e62
            refine step_val (v := .pointer (some ⟨G, 12, none⟩)) (w' := w') ?_ ⟨_, rfl, Ext.refl _ _, rfl, by have := hx.size; simp [by9vb, vblocks]; omega⟩
            simp [execOp, h62, Result.andThen, go_sem]
          case f12 =>
            intro g w' hx hd
            have e63 : g 63 = .pointer (some ⟨G, 12, none⟩) := hd ⟨11, .data⟩ (by simp) rfl rfl
            generalize hA : mkAct _ _ g = A
            have h63 : A.tmps[63]?.getD undef = .pointer (some ⟨G, 12, none⟩) := by rw [← hA, mkAct_in2 _ _ _ _ rfl rfl]; exact e63
            have c := cG12 w' hx
            refine step_val (v := .int .i64 m.lt) (w' := w') ?_ ⟨_, rfl, Ext.refl _ _, rfl, by simp [by9vb, vblocks]⟩
            simp [execOp, h63, c, Result.andThen, go_sem]
          case f13 =>
            intro g w' hx hd
            generalize hA : mkAct _ _ g = A
            have h1 : A.tmps[1]?.getD undef = .pointer (some ⟨G, 0, none⟩) := by rw [← hA]; exact mkAct_out2 _ _ _ _ _ rfl rfl
            refine step_val (v := .pointer (some ⟨G, 11, none⟩)) (w' := w') ?_ ⟨_, rfl, Ext.refl _ _, rfl, by have := hx.size; simp [by9vb, vblocks]; omega⟩
            simp [execOp, h1, Result.andThen, go_sem]
          case f14 =>
            intro g w' hx hd
            have e65 : g 65 = .pointer (some ⟨G, 11, none⟩) := hd ⟨13, .data⟩ (by simp) rfl rfl
            generalize hA : mkAct _ _ g = A
            have h65 : A.tmps[65]?.getD undef = .pointer (some ⟨G, 11, none⟩) := by rw [← hA, mkAct_in2 _ _ _ _ rfl rfl]; exact e65
            refine step_val (v := .pointer (some ⟨G, 13, none⟩)) (w' := w') ?_ ⟨_, rfl, Ext.refl _ _, rfl, by have := hx.size; simp [by9vb, vblocks]; omega⟩
            simp [execOp, h65, Result.andThen, go_sem]
          case f15 =>
            intro g w' hx hd
            have e66 : g 66 = .pointer (some ⟨G, 13, none⟩) := hd ⟨14, .data⟩ (by simp) rfl rfl
            generalize hA : mkAct _ _ g = A
            have h66 : A.tmps[66]?.getD undef = .pointer (some ⟨G, 13, none⟩) := by rw [← hA, mkAct_in2 _ _ _ _ rfl rfl]; exact e66
            have c := cG13 w' hx
            refine step_val (v := .int .i64 m.lb) (w' := w') ?_ ⟨_, rfl, Ext.refl _ _, rfl, by simp [by9vb, vblocks]⟩
            simp [execOp, h66, c, Result.andThen, go_sem]
          case f16 =>
            intro g w' hx hd
            generalize hA : mkAct _ _ g = A
            have h1 : A.tmps[1]?.getD undef = .pointer (some ⟨G, 0, none⟩) := by rw [← hA]; exact mkAct_out2 _ _ _ _ _ rfl rfl
            refine step_val (v := .pointer (some ⟨G, 11, none⟩)) (w' := w') ?_ ⟨_, rfl, Ext.refl _ _, rfl, by have := hx.size; simp [by9vb, vblocks]; omega⟩
            simp [execOp, h1, Result.andThen, go_sem]
          case f17 =>
            intro g w' hx hd
            have e68 : g 68 = .pointer (some ⟨G, 11, none⟩) := hd ⟨16, .data⟩ (by simp) rfl rfl
            generalize hA : mkAct _ _ g = A
            have h68 : A.tmps[68]?.getD undef = .pointer (some ⟨G, 11, none⟩) := by rw [← hA, mkAct_in2 _ _ _ _ rfl rfl]; exact e68
            refine step_val (v := .pointer (some ⟨G, 14, none⟩)) (w' := w') ?_ ⟨_, rfl, Ext.refl _ _, rfl, by have := hx.size; simp [by9vb, vblocks]; omega⟩
            simp [execOp, h68, Result.andThen, go_sem]
          case f18 =>
            intro g w' hx hd
            have e69 : g 69 = .pointer (some ⟨G, 14, none⟩) := hd ⟨17, .data⟩ (by simp) rfl rfl
            generalize hA : mkAct _ _ g = A
            have h69 : A.tmps[69]?.getD undef = .pointer (some ⟨G, 14, none⟩) := by rw [← hA, mkAct_in2 _ _ _ _ rfl rfl]; exact e69
            have c := cG14 w' hx
            refine step_val (v := .slice m.sa m.sn m.sc) (w' := w') ?_ ⟨_, rfl, Ext.refl _ _, rfl, by simp [by9vb, vblocks]⟩
            simp [execOp, h69, c, Result.andThen, go_sem]
          case f19 =>
            intro g w' hx hd
            have e70 : g 70 = .slice m.sa m.sn m.sc := hd ⟨18, .data⟩ (by simp) rfl rfl
            generalize hA : mkAct _ _ g = A
            have h70 : A.tmps[70]?.getD undef = .slice m.sa m.sn m.sc := by rw [← hA, mkAct_in2 _ _ _ _ rfl rfl]; exact e70
            refine step_val (v := .int .i64 (m.sn : Int)) (w' := w') ?_ ⟨_, rfl, Ext.refl _ _, rfl, by simp [by9vb, vblocks]⟩
            simp [execOp, h70, Result.andThen, go_sem]
          case f20 =>
            intro g w' hx hd
            have e58 : g 58 = .int .i64 m.state := hd ⟨6, .data⟩ (by simp) rfl rfl
            have e61 : g 61 = .int .i64 m.li := hd ⟨9, .data⟩ (by simp) rfl rfl
            have e64 : g 64 = .int .i64 m.lt := hd ⟨12, .data⟩ (by simp) rfl rfl
            have e67 : g 67 = .int .i64 m.lb := hd ⟨15, .data⟩ (by simp) rfl rfl
            have e71 : g 71 = .int .i64 (m.sn : Int) := hd ⟨19, .data⟩ (by simp) rfl rfl
            generalize hA : mkAct _ _ g = A
            have h58 : A.tmps[58]?.getD undef = .int .i64 m.state := by rw [← hA, mkAct_in2 _ _ _ _ rfl rfl]; exact e58
            have h61 : A.tmps[61]?.getD undef = .int .i64 m.li := by rw [← hA, mkAct_in2 _ _ _ _ rfl rfl]; exact e61
            have h64 : A.tmps[64]?.getD undef = .int .i64 m.lt := by rw [← hA, mkAct_in2 _ _ _ _ rfl rfl]; exact e64
            have h67 : A.tmps[67]?.getD undef = .int .i64 m.lb := by rw [← hA, mkAct_in2 _ _ _ _ rfl rfl]; exact e67
            have h71 : A.tmps[71]?.getD undef = .int .i64 (m.sn : Int) := by rw [← hA, mkAct_in2 _ _ _ _ rfl rfl]; exact e71
            refine step_val (v := .slice (some ⟨w'.heap.size, 0, none⟩) 5 5) (w' := w'.alloc (.cells #[.int .i64 m.state, .int .i64 m.li, .int .i64 m.lt, .int .i64 m.lb, .int .i64 (m.sn : Int)] 3)) ?_ ⟨_, rfl, (Ext.refl _ _).alloc _, ⟨w'.heap.size, hx.size, rfl, Rd.litg #[.int .i64 m.state, .int .i64 m.li, .int .i64 m.lt, .int .i64 m.lb, .int .i64 (m.sn : Int)] 3 1 5 rfl (by unfold maxLen; omega) rfl⟩, by simp [by9vb, vblocks]⟩
            simp [execOp, h58, h61, h64, h67, h71, Result.andThen, go_sem]
          case f0 =>
            intro s g O w' hs hx hd hsp hC hO
            rcases s with _ | _ | _ | _ | s <;> simp at hs
            obtain ⟨rfl, ev, ho⟩ := hC
            generalize hA : mkAct _ _ g = A
            have h2 : A.tmps[4]?.getD undef = u4 := by rw [← hA, mkAct_in2 _ _ _ _ rfl rfl]; exact ev
            refine chain_k3 (Cn := fun v O' w'' => by9C F0 wr.heap.size G u4 m.ok m.state m.li m.lt m.lb (m.sn : Int) m.sa m.sn m.sc L0 L1 L2 1 (updG g 52 v) O' w'') (fun K hK => ?_)
            clear hsp
            go_simp
            exact hK u4 [] w' (Ext.refl _ _) ⟨rfl, rfl, ho⟩ (by simp)
          case f4 =>
            intro s g O w' hs hx hd hsp hC hO
            rcases s with _ | _ | _ | _ | s <;> simp at hs
            obtain ⟨rfl, ev, ho⟩ := hC
            obtain ⟨p, hp, e6, hr⟩ := hd ⟨3, .data⟩ (by simp) rfl rfl
            have e6' : g 55 = .slice (some ⟨p, 0, none⟩) 1 1 := e6
            rw [show g (slotOf _ 3) = g 55 from rfl, e6'] at hr
            generalize hA : mkAct _ _ g = A
            have h1 : A.tmps[55]?.getD undef = .slice (some ⟨p, 0, none⟩) 1 1 := by rw [← hA, mkAct_in2 _ _ _ _ rfl rfl]; exact e6'
            have h2 : A.tmps[52]?.getD undef = u4 := by rw [← hA, mkAct_in2 _ _ _ _ rfl rfl]; exact ev
            refine chain_k3 (Cn := fun v O' w'' => by9C F0 wr.heap.size G u4 m.ok m.state m.li m.lt m.lb (m.sn : Int) m.sa m.sn m.sc L0 L1 L2 2 (updG g 56 v) O' w'') (fun K hK => ?_)
            go_simp
            have hsz := hx.size
            refine (flag_any u4 L0 _ 1 1 [m.ok] w' (by omega) (by omega) ho hr (fun x hx1 hx2 => ?_)).mono ?_
            · have := hF0 _ (hV0 x hx2)
              simp [vblocks] at hx1
              omega
            rintro e w2 ⟨v', rfl, ho2, hx2, hv⟩
            rw [← HL1.out] at ho2
            refine hK v' ((vblocks v').filter fun z => decide (z ∉ F0)) w2 (hx2.mono (fun z hz => .inl ?_)) ⟨ho2, fun z hz => ?_⟩ (fun z hz => ?_)
            · exact List.mem_append_left _ (hV0 z hz)
            · by_cases hzF : z ∈ F0
              · exact .inl hzF
              · refine .inr ⟨List.mem_filter.2 ⟨hz, by simpa using hzF⟩, ?_⟩
                rcases hv z hz with h | h
                · exact absurd (hV0 z h) hzF
                · omega
            · obtain ⟨hz1, hz2⟩ := List.mem_filter.1 hz
              refine ⟨?_, ho2.lt z hz1⟩
              rcases hv z hz1 with h | h
              · exact absurd (hV0 z h) (by simpa using hz2)
              · exact .inr h
          case f21 =>
            intro s g O w' hs hx hd hsp hC hO
            rcases s with _ | _ | _ | _ | s <;> simp at hs
            obtain ⟨ho, hvO⟩ := hC
            obtain ⟨p, hp, e6, hr⟩ := hd ⟨20, .data⟩ (by simp) rfl rfl
            have e6' : g 72 = .slice (some ⟨p, 0, none⟩) 5 5 := e6
            have hqO : ∀ x ∈ vblocks (.slice (some ⟨p, 0, none⟩) 5 5), x ∉ O := by
              have := hsp ⟨20, .data⟩ (by simp) rfl rfl
              rw [show g (slotOf _ 20) = g 72 from rfl, e6'] at this
              exact this
            rw [show g (slotOf _ 20) = g 72 from rfl, e6'] at hr
            generalize hA : mkAct _ _ g = A
            have h1 : A.tmps[72]?.getD undef = .slice (some ⟨p, 0, none⟩) 5 5 := by rw [← hA, mkAct_in2 _ _ _ _ rfl rfl]; exact e6'
            have h2 : A.tmps[56]?.getD undef = g 56 := by rw [← hA, mkAct_in2 _ _ _ _ rfl rfl]
            refine chain_k3 (Cn := fun v O' w'' => by9C F0 wr.heap.size G u4 m.ok m.state m.li m.lt m.lb (m.sn : Int) m.sa m.sn m.sc L0 L1 L2 3 (updG g 73 v) O' w'') (fun K hK => ?_)
            obtain ⟨v0', hv0'⟩ : ∃ v, v = g 56 := ⟨_, rfl⟩
            rw [← hv0'] at h2 ho hvO
            clear hv0' e6 e6' hsp
            go_simp
            have hsz := hx.size
            refine (num_any v0' L1 _ 5 5 [m.state, m.li, m.lt, m.lb, (m.sn : Int)] w' (by omega) (by omega) ho hr (fun x hx1 hx2 => ?_)).mono ?_
            · rcases hvO x hx2 with h | h
              · have := hF0 _ h
                simp [vblocks] at hx1
                omega
              · exact hqO x hx1 h.1
            rintro e w2 ⟨v', rfl, ho2, hx2, hv⟩
            rw [← HL2.out] at ho2
            refine hK v' ((vblocks v').filter fun z => decide (z ∉ F0)) w2 (hx2.mono (fun z hz => .inl ?_)) ⟨ho2, fun z hz => ?_⟩ (fun z hz => ?_)
            · rcases hvO z hz with h | h
              · exact List.mem_append_left _ h
              · exact List.mem_append_right _ h.1
            · by_cases hzF : z ∈ F0
              · exact .inl hzF
              · refine .inr ⟨List.mem_filter.2 ⟨hz, by simpa using hzF⟩, ?_⟩
                rcases hv z hz with h | h
                · exact ((hvO z h).resolve_left hzF).2
                · omega
            · obtain ⟨hz1, hz2⟩ := List.mem_filter.1 hz
              refine ⟨?_, ho2.lt z hz1⟩
              rcases hv z hz1 with h | h
              · exact .inl ((hvO z h).resolve_left (by simpa using hz2)).1
              · exact .inr h
          case f22 =>
            intro s g O w' hs hx hd hsp hC hO
            rcases s with _ | _ | _ | _ | s <;> simp at hs
            obtain ⟨ho, hvO⟩ := hC
            generalize hA : mkAct _ _ g = A
            have h2 : A.tmps[73]?.getD undef = g 73 := by rw [← hA, mkAct_in2 _ _ _ _ rfl rfl]
            refine chain_k3 (Cn := fun v O' w'' => by9C F0 wr.heap.size G u4 m.ok m.state m.li m.lt m.lb (m.sn : Int) m.sa m.sn m.sc L0 L1 L2 4 (updG g 4 v) O' w'') (fun K hK => ?_)
            obtain ⟨v0', hv0'⟩ : ∃ v, v = g 73 := ⟨_, rfl⟩
            rw [← hv0'] at h2 ho hvO
            clear hv0' hsp
            go_simp
            exact hK v0' O w' (Ext.refl _ _) ⟨ho, hvO⟩ (fun z hz => ⟨.inl hz, (hO z hz).2⟩)
        · intro g O w5 hx5 hC hd
          obtain ⟨ho5, hv5⟩ := hC
          have HO5 : Hid (OwnB w5 (g 4) (byC m es ss 0)) := by show OwnB _ _ _; rw [HSU.out]; exact ho5
          have HV5 : Hid (∀ z ∈ vblocks (g 4), W.heap.size ≤ z) := fun z hz => by
            rcases hv5 z hz with h | h
            · exact HVF.out z h
            · have h1 := hX.out.size; have h3 := h.2; omega
          have HX5 : Hid (Ext [] W w5) := hX.out.trans hx5 (fun z hz => .inr (HVF.out z hz))
          have c14 : w5.cell? ⟨G, 14, none⟩ = some (.slice m.sa m.sn m.sc) := (HB.out.keep HX5.out (by simp)).c 14
          clear ho5 hv5 hx5 hd cG9 cG10 cG11 cG12 cG13 cG14 hF0 hV0 HO3 HX3 HV3
          unfold mkAct
          simp only [List.zipIdx_cons, List.zipIdx_nil, List.map_cons, List.map_nil, Nat.zero_add, Nat.reduceAdd, List.contains_cons, List.contains_nil, Nat.reduceBEq, Bool.or_false, Bool.or_true, ↓reduceIte, Bool.false_eq_true]
          go_wp2
          clear c14
          go_loopw [4, 78] (fun u4 u78 wr => ∃ (j : Nat), u78 = .int .i64 (j : Int) ∧ j ≤ m.sn ∧ Hid (OwnB wr u4 (byC m es ss j)) ∧ Hid (Ext [] W wr) ∧ Hid (∀ z ∈ vblocks u4, W.heap.size ≤ z)) (fun _ u78 _ => m.sn - (intOf u78).toNat)
          case atStart => exact ⟨0, rfl, by omega, HO5.out, HX5.out, HV5.out⟩
          case round =>
            obtain ⟨j, rfl, hj, hO6, hX6, hV6⟩ := hrel
            have hle : (byC m es ss j).length ≤ 4000 := byC_len m es ss j (fun e he => (HR1.out e he).2.2) (by rw [HLN.out]; exact hen) (by rw [HLS.out]; exact hsn)
            by_cases hlt2 : j < m.sn
            · have hjm : j < ss.length := by rw [HLS.out]; exact hlt2
              obtain ⟨q, off, hsa, hc⟩ := HMs.out.sums.u32 j hjm
              obtain ⟨x, hx⟩ : ∃ x, x = ss[j] := ⟨_, rfl⟩
              rw [← hx] at hc
              have d0 := hc wr hX6.out
              have hwr : IntKind.i64.wrap (x.toNat : Int) = (x.toNat : Int) := IntWalk.i64_in _ ⟨by omega, by have := x.toNat_lt; omega⟩
              have hnx : byC m es ss (j + 1) = byC m es ss j ++ encNums [(x.toNat : Int)] := by
                unfold byC
                rw [List.take_add_one, List.getElem?_eq_getElem hjm, ← hx]
                simp [encU, encNums]
              have HNX := Hid.of hnx
              have cn := num_any u4 (byC m es ss j) (some ⟨wr.heap.size, 0, none⟩) 1 1 [(x.toNat : Int)] (wr.alloc (.cells #[.int .i64 (x.toNat : Int)] 3)) (by omega) (by omega) (hO6.out.keep ((Ext.refl [] wr).alloc _) (by simp)) (Rd.lit wr #[.int .i64 (x.toNat : Int)] 3 1 1 rfl (by unfold maxLen; omega)) (fun z hz1 hz2 => by have := hO6.out.lt z hz2; simp [vblocks] at hz1; omega)
              rw [hsa]
              clear hx hc hsa hnx
              go_wp2_with ((go_at_call 24; (with_reducible refine cn.mono ?_); rintro e w7 ⟨v7, rfl, ho7, hx7, hv7⟩; have HO7 := Hid.of ho7; have HX7 := Hid.of ((hX6.out.alloc _).trans hx7 (fun z hz => .inr (hV6.out z hz))); have HV7 : Hid (∀ z ∈ vblocks v7, W.heap.size ≤ z) := (fun z hz => by { rcases hv7 z hz with h | h; · { exact hV6.out z h }; · { have := hX6.out.size; simp at h; omega } }); clear ho7 hx7 hv7 cn))
              refine ⟨⟨j + 1, by congr 1, by omega, show OwnB _ _ _ by rw [HNX.out]; exact HO7.out, HX7.out, HV7.out⟩, by simp [intOf]; omega⟩
            · obtain rfl : j = m.sn := by omega
              have hBr := HB.out.keep hX6.out (by simp)
              have hGr := hBr.lt
              have hO' := hO6.out
              obtain ⟨F0, hFe⟩ : ∃ F, F = vblocks u4 := ⟨_, rfl⟩
              have hV0 : ∀ z ∈ vblocks u4, z ∈ F0 := fun z hz => by rw [hFe]; exact hz
              have hlto := hO'.lt
              have hF0 : ∀ z ∈ F0, z < wr.heap.size := fun z hz => hlto z (by rw [← hFe]; exact hz)
              have HVF : Hid (∀ z ∈ F0, W.heap.size ≤ z) := fun z hz => hV6.out z (by rw [← hFe]; exact hz)
              have hGF : G ∉ F0 := fun hm => by have := HVF.out _ hm; omega
              obtain ⟨L0, hl0⟩ : ∃ L, L = byC m es ss m.sn := ⟨_, rfl⟩
              obtain ⟨L1, hl1⟩ : ∃ L, L = L0 ++ encNums [m.part] := ⟨_, rfl⟩
              obtain ⟨L2, hl2⟩ : ∃ L, L = L1 ++ encTexts [m.data] := ⟨_, rfl⟩
              have hl1n : L1.length ≤ 5000 := by rw [hl1, hl0, List.length_append, encNums_length]; simp; omega
              have hsu : encM m es ss = L2 := by rw [hl2, hl1, hl0, ← HLS.out, by_all]
              rw [← hl0] at hle hO'
              have HL1 := Hid.of hl1
              have HL2 := Hid.of hl2
              have HSU2 := Hid.of hsu
              have HV0 := Hid.of hO'
              have cG15 : ∀ w', Ext F0 wr w' → w'.cell? ⟨G, 15, none⟩ = some (.int .i64 m.part) := fun w' hx => (hBr.keep hx hGF).c 15
              have cG16 : ∀ w', Ext F0 wr w' → w'.cell? ⟨G, 16, none⟩ = some (str m.data) := fun w' hx => (hBr.keep hx hGF).c 16
              clear hl0 hl1 hl2 hsu hO' hFe hlto hBr hO6
              go_wp2_with fail
              refine wp_region_plan3 by15vb F0 [88, 89, 90, 91, 92, 93, 94, 95, 96, 97, 2, 3] [0, 4, 8, 9, 10, 11] (by15Φ wr.heap.size G u4 m.part m.data L0 L1 L2) (by15C F0 wr.heap.size G u4 m.part m.data L0 L1 L2) (by kernel_rfl) (by kernel_rfl) (by kernel_rfl)
                (fun n0 v' F' w1 w2 h hx hv => by15Φ_keep F0 wr.heap.size G u4 m.part m.data L0 L1 L2 hF0 n0 v' F' w1 w2 h hx hv) (fun s g O w1 w2 h hx => by15C_keep F0 wr.heap.size G u4 m.part m.data L0 L1 L2 s g O w1 w2 h hx) ?_ (fun w' hx => ⟨rfl, HV0.out.keep hx (by simp)⟩) ?_ ?_
              · intro s g g' O w1 h hg
                have e88 : g 88 = g' 88 := hg 0 rfl
                have e92 : g 92 = g' 92 := hg 4 rfl
                have e96 : g 96 = g' 96 := hg 8 rfl
                have e97 : g 97 = g' 97 := hg 9 rfl
                have e2 : g 2 = g' 2 := hg 10 rfl
                have e3 : g 3 = g' 3 := hg 11 rfl
                unfold by15C at h ⊢
                rw [← e88, ← e92, ← e96, ← e97, ← e2, ← e3]
                exact h
              · refine ⟨⟨fun h => (by cases h), fun _ => ?f0⟩, ⟨fun _ => ?f1, fun h => by cases h⟩, ⟨fun _ => ?f2, fun h => by cases h⟩, ⟨fun _ => ?f3, fun h => by cases h⟩, ⟨fun h => (by cases h), fun _ => ?f4⟩, ⟨fun _ => ?f5, fun h => by cases h⟩, ⟨fun _ => ?f6, fun h => by cases h⟩, ⟨fun _ => ?f7, fun h => by cases h⟩, ⟨fun h => (by cases h), fun _ => ?f8⟩, ⟨fun h => (by cases h), fun _ => ?f9⟩, ⟨fun h => (by cases h), fun _ => ?f10⟩, ⟨fun h => (by cases h), fun _ => ?f11⟩, trivial⟩
                case f1 =>
                  intro g w' hx hd
                  generalize hA : mkAct _ _ g = A
                  have h1 : A.tmps[1]?.getD undef = .pointer (some ⟨G, 0, none⟩) := by rw [← hA]; exact mkAct_out2 _ _ _ _ _ rfl rfl
                  refine step_val (v := .pointer (some ⟨G, 15, none⟩)) (w' := w') ?_ ⟨_, rfl, Ext.refl _ _, rfl, by have := hx.size; simp [by15vb, vblocks]; omega⟩
                  simp [execOp, h1, Result.andThen, go_sem]
                case f2 =>
                  intro g w' hx hd
                  have e89 : g 89 = .pointer (some ⟨G, 15, none⟩) := hd ⟨1, .data⟩ (by simp) rfl rfl
                  generalize hA : mkAct _ _ g = A
                  have h89 : A.tmps[89]?.getD undef = .pointer (some ⟨G, 15, none⟩) := by rw [← hA, mkAct_in2 _ _ _ _ rfl rfl]; exact e89
                  have c := cG15 w' hx
                  refine step_val (v := .int .i64 m.part) (w' := w') ?_ ⟨_, rfl, Ext.refl _ _, rfl, by simp [by15vb, vblocks]⟩
                  simp [execOp, h89, c, Result.andThen, go_sem]
                case f3 =>
                  intro g w' hx hd
                  have e90 : g 90 = .int .i64 m.part := hd ⟨2, .data⟩ (by simp) rfl rfl
                  generalize hA : mkAct _ _ g = A
                  have h90 : A.tmps[90]?.getD undef = .int .i64 m.part := by rw [← hA, mkAct_in2 _ _ _ _ rfl rfl]; exact e90
                  refine step_val (v := .slice (some ⟨w'.heap.size, 0, none⟩) 1 1) (w' := w'.alloc (.cells #[.int .i64 m.part] 3)) ?_ ⟨_, rfl, (Ext.refl _ _).alloc _, ⟨w'.heap.size, hx.size, rfl, Rd.litg #[.int .i64 m.part] 3 1 1 rfl (by unfold maxLen; omega) rfl⟩, by simp [by15vb, vblocks]⟩
                  simp [execOp, h90, Result.andThen, go_sem]
                case f5 =>
                  intro g w' hx hd
                  generalize hA : mkAct _ _ g = A
                  have h1 : A.tmps[1]?.getD undef = .pointer (some ⟨G, 0, none⟩) := by rw [← hA]; exact mkAct_out2 _ _ _ _ _ rfl rfl
                  refine step_val (v := .pointer (some ⟨G, 16, none⟩)) (w' := w') ?_ ⟨_, rfl, Ext.refl _ _, rfl, by have := hx.size; simp [by15vb, vblocks]; omega⟩
                  simp [execOp, h1, Result.andThen, go_sem]
                case f6 =>
                  intro g w' hx hd
                  have e93 : g 93 = .pointer (some ⟨G, 16, none⟩) := hd ⟨5, .data⟩ (by simp) rfl rfl
                  generalize hA : mkAct _ _ g = A
                  have h93 : A.tmps[93]?.getD undef = .pointer (some ⟨G, 16, none⟩) := by rw [← hA, mkAct_in2 _ _ _ _ rfl rfl]; exact e93
                  have c := cG16 w' hx
                  refine step_val (v := str m.data) (w' := w') ?_ ⟨_, rfl, Ext.refl _ _, rfl, by simp [by15vb, vblocks]⟩
                  simp [execOp, h93, c, Result.andThen, go_sem]
                case f7 =>
                  intro g w' hx hd
                  have e94 : g 94 = str m.data := hd ⟨6, .data⟩ (by simp) rfl rfl
                  generalize hA : mkAct _ _ g = A
                  have h94 : A.tmps[94]?.getD undef = str m.data := by rw [← hA, mkAct_in2 _ _ _ _ rfl rfl]; exact e94
                  refine step_val (v := .slice (some ⟨w'.heap.size, 0, none⟩) 1 1) (w' := w'.alloc (.cells #[str m.data] 9)) ?_ ⟨_, rfl, (Ext.refl _ _).alloc _, ⟨w'.heap.size, hx.size, rfl, Rd.litg #[str m.data] 9 1 1 rfl (by unfold maxLen; omega) rfl⟩, by simp [by15vb, vblocks]⟩
                  simp [execOp, h94, Result.andThen, go_sem]
                case f0 =>
                  intro s g O w' hs hx hd hsp hC hO
                  rcases s with _ | _ | _ | _ | _ | _ | s <;> simp at hs
                  obtain ⟨rfl, ho⟩ := hC
                  generalize hA : mkAct _ _ g = A
                  have h2 : A.tmps[4]?.getD undef = u4 := by rw [← hA]; exact mkAct_out2 _ _ _ _ _ rfl rfl
                  refine chain_k3 (Cn := fun v O' w'' => by15C F0 wr.heap.size G u4 m.part m.data L0 L1 L2 1 (updG g 88 v) O' w'') (fun K hK => ?_)
                  clear hsp
                  go_simp
                  exact hK u4 [] w' (Ext.refl _ _) ⟨rfl, rfl, ho⟩ (by simp)
                case f4 =>
                  intro s g O w' hs hx hd hsp hC hO
                  rcases s with _ | _ | _ | _ | _ | _ | s <;> simp at hs
                  obtain ⟨rfl, ev, ho⟩ := hC
                  obtain ⟨p, hp, e6, hr⟩ := hd ⟨3, .data⟩ (by simp) rfl rfl
                  have e6' : g 91 = .slice (some ⟨p, 0, none⟩) 1 1 := e6
                  rw [show g (slotOf _ 3) = g 91 from rfl, e6'] at hr
                  generalize hA : mkAct _ _ g = A
                  have h1 : A.tmps[91]?.getD undef = .slice (some ⟨p, 0, none⟩) 1 1 := by rw [← hA, mkAct_in2 _ _ _ _ rfl rfl]; exact e6'
                  have h2 : A.tmps[88]?.getD undef = u4 := by rw [← hA, mkAct_in2 _ _ _ _ rfl rfl]; exact ev
                  refine chain_k3 (Cn := fun v O' w'' => by15C F0 wr.heap.size G u4 m.part m.data L0 L1 L2 2 (updG g 92 v) O' w'') (fun K hK => ?_)
                  go_simp
                  have hsz := hx.size
                  refine (num_any u4 L0 _ 1 1 [m.part] w' (by omega) (by omega) ho hr (fun x hx1 hx2 => ?_)).mono ?_
                  · have := hF0 _ (hV0 x hx2)
                    simp [vblocks] at hx1
                    omega
                  rintro e w2 ⟨v', rfl, ho2, hx2, hv⟩
                  rw [← HL1.out] at ho2
                  refine hK v' ((vblocks v').filter fun z => decide (z ∉ F0)) w2 (hx2.mono (fun z hz => .inl ?_)) ⟨ho2, fun z hz => ?_⟩ (fun z hz => ?_)
                  · exact List.mem_append_left _ (hV0 z hz)
                  · by_cases hzF : z ∈ F0
                    · exact .inl hzF
                    · refine .inr ⟨List.mem_filter.2 ⟨hz, by simpa using hzF⟩, ?_⟩
                      rcases hv z hz with h | h
                      · exact absurd (hV0 z h) hzF
                      · omega
                  · obtain ⟨hz1, hz2⟩ := List.mem_filter.1 hz
                    refine ⟨?_, ho2.lt z hz1⟩
                    rcases hv z hz1 with h | h
                    · exact absurd (hV0 z h) (by simpa using hz2)
                    · exact .inr h
                case f8 =>
                  intro s g O w' hs hx hd hsp hC hO
                  rcases s with _ | _ | _ | _ | _ | _ | s <;> simp at hs
                  obtain ⟨ho, hvO⟩ := hC
                  obtain ⟨p, hp, e6, hr⟩ := hd ⟨7, .data⟩ (by simp) rfl rfl
                  have e6' : g 95 = .slice (some ⟨p, 0, none⟩) 1 1 := e6
                  have hqO : ∀ x ∈ vblocks (.slice (some ⟨p, 0, none⟩) 1 1), x ∉ O := by
                    have := hsp ⟨7, .data⟩ (by simp) rfl rfl
                    rw [show g (slotOf _ 7) = g 95 from rfl, e6'] at this
                    exact this
                  rw [show g (slotOf _ 7) = g 95 from rfl, e6'] at hr
                  generalize hA : mkAct _ _ g = A
                  have h1 : A.tmps[95]?.getD undef = .slice (some ⟨p, 0, none⟩) 1 1 := by rw [← hA, mkAct_in2 _ _ _ _ rfl rfl]; exact e6'
                  have h2 : A.tmps[92]?.getD undef = g 92 := by rw [← hA, mkAct_in2 _ _ _ _ rfl rfl]
                  refine chain_k3 (Cn := fun v O' w'' => by15C F0 wr.heap.size G u4 m.part m.data L0 L1 L2 3 (updG g 96 v) O' w'') (fun K hK => ?_)
                  obtain ⟨v0', hv0'⟩ : ∃ v, v = g 92 := ⟨_, rfl⟩
                  rw [← hv0'] at h2 ho hvO
                  clear hv0' e6 e6' hsp
                  go_simp
                  have hsz := hx.size
                  refine (text_any v0' L1 _ 1 1 [m.data] w' (by omega) (by omega) ho hr (fun x hx1 hx2 => ?_)).mono ?_
                  · rcases hvO x hx2 with h | h
                    · have := hF0 _ h
                      simp [vblocks] at hx1
                      omega
                    · exact hqO x hx1 h.1
                  rintro e w2 ⟨v', rfl, ho2, hx2, hv⟩
                  rw [← HL2.out] at ho2
                  refine hK v' ((vblocks v').filter fun z => decide (z ∉ F0)) w2 (hx2.mono (fun z hz => .inl ?_)) ⟨ho2, fun z hz => ?_⟩ (fun z hz => ?_)
                  · rcases hvO z hz with h | h
                    · exact List.mem_append_left _ h
                    · exact List.mem_append_right _ h.1
                  · by_cases hzF : z ∈ F0
                    · exact .inl hzF
                    · refine .inr ⟨List.mem_filter.2 ⟨hz, by simpa using hzF⟩, ?_⟩
                      rcases hv z hz with h | h
                      · exact ((hvO z h).resolve_left hzF).2
                      · omega
                  · obtain ⟨hz1, hz2⟩ := List.mem_filter.1 hz
                    refine ⟨?_, ho2.lt z hz1⟩
                    rcases hv z hz1 with h | h
                    · exact .inl ((hvO z h).resolve_left (by simpa using hz2)).1
                    · exact .inr h
                case f9 =>
                  intro s g O w' hs hx hd hsp hC hO
                  rcases s with _ | _ | _ | _ | _ | _ | s <;> simp at hs
                  obtain ⟨ho, hvO⟩ := hC
                  generalize hA : mkAct _ _ g = A
                  have h2 : A.tmps[96]?.getD undef = g 96 := by rw [← hA, mkAct_in2 _ _ _ _ rfl rfl]
                  have hst := ho.str
                  refine chain_k3 (Cn := fun v O' w'' => by15C F0 wr.heap.size G u4 m.part m.data L0 L1 L2 4 (updG g 97 v) O' w'') (fun K hK => ?_)
                  obtain ⟨v0', hv0'⟩ : ∃ v, v = g 96 := ⟨_, rfl⟩
                  rw [← hv0'] at h2 hst
                  clear hv0' hsp ho hvO
                  go_simp
                  exact hK (str L2) [] w' (Ext.refl _ _) rfl (by simp)
                case f10 =>
                  intro s g O w' hs hx hd hsp hC hO
                  rcases s with _ | _ | _ | _ | _ | _ | s <;> simp at hs
                  have hC' : g 97 = str L2 := hC
                  generalize hA : mkAct _ _ g = A
                  have h2 : A.tmps[97]?.getD undef = str L2 := by rw [← hA, mkAct_in2 _ _ _ _ rfl rfl]; exact hC'
                  refine chain_k3 (Cn := fun v O' w'' => by15C F0 wr.heap.size G u4 m.part m.data L0 L1 L2 5 (updG g 2 v) O' w'') (fun K hK => ?_)
                  clear hsp hC hC'
                  go_simp
                  exact hK (str L2) [] w' (Ext.refl _ _) rfl (by simp)
                case f11 =>
                  intro s g O w' hs hx hd hsp hC hO
                  rcases s with _ | _ | _ | _ | _ | _ | s <;> simp at hs
                  have hC' : g 2 = str L2 := hC
                  generalize hA : mkAct _ _ g = A
                  refine chain_k3 (Cn := fun v O' w'' => by15C F0 wr.heap.size G u4 m.part m.data L0 L1 L2 6 (updG g 3 v) O' w'') (fun K hK => ?_)
                  clear hsp hC
                  go_simp
                  exact hK (.int .i64 0) [] w' (Ext.refl _ _) ⟨rfl, hC'⟩ (by simp)
              · intro g O w5 hx5 hC hd
                obtain ⟨e3, e2⟩ := hC
                have HXF := Hid.of (HXW.out.then0 (hX6.out.trans hx5 (fun z hz => .inr (HVF.out z hz)) : Ext [] W w5))
                clear hx5 hd cG15 cG16 hF0 hV0
                unfold mkAct
                simp only [List.zipIdx_cons, List.zipIdx_nil, List.map_cons, List.map_nil, Nat.zero_add, Nat.reduceAdd, List.contains_cons, List.contains_nil, Nat.reduceBEq, Bool.or_false, Bool.or_true, ↓reduceIte, Bool.false_eq_true]
                rw [e2, e3]
                go_wp2
                go_ret2
                rw [HY2.out, HSU2.out]
                exact ⟨rfl, HXF.out⟩
  · rw [decide_eq_false hR] at cr
    have hy := HY.out
    rw [if_neg hR] at hy
    have HY2 := Hid.of hy
    clear hR hy
    go_wp2_with (first
      | (refine wpList_load_mid rfl 36 _ rfl G 0 rfl m.cells _ HRow.out Try.underlying36 rfl (by rw [mcells_len]; kernel_rfl) ?_)
      | (go_at_call 22; (with_reducible refine cr.mono ?_); rintro e w2 ⟨rfl, hx2⟩))
    go_ret2
    rw [HY2.out]
    exact ⟨rfl, HXW.out.then0 hx2⟩
end Go.Proofs.Ytaekkkcgoegllaa
