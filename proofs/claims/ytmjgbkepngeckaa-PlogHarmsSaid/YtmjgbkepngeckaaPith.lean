/- The contracts of the functions of layer 1 that lay bytes: Num, Text, Flag. -/
import Derived.Test.YtmjgbkepngeckaaBaseb
import Derived.Test.YtmjgbkepngeckaaPlain
namespace Go.Proofs.Ytmjgbkepngeckaa
open Go.RowKit
set_option linter.unusedVariables false
attribute [local go_sem high] run_max2 run_min2

theorem el_bytes : Elem Try.prog 62 5 (.int .u8 0) 1 1 := Elem.mk' Try.underlying62 rfl (by kernel_rfl)

/-- A slice of bytes that the call owns. -/
def OwnB (w : World) (v : Value) (l : List UInt8) : Prop := Own w 5 1 v l.length (bcells l)
theorem OwnB.rd {w : World} {v : Value} {l : List UInt8} (h : OwnB w v l) : Rd w 1 v l.length (bcells l) := Own.rd h
/-- string(b): an equation for the walk. -/
theorem OwnB.str {w : World} {v : Value} {l : List UInt8} (h : OwnB w v l) : (convert 62 9 v).run Try.prog w = .ok (.string ⟨l.toArray⟩) w :=
  run_string_Rd _ _ 5 Try.underlying62 Try.underlying5 Try.underlying9 v _ l h.rd
theorem OwnB.keep {w w' : World} {v : Value} {l : List UInt8} {F : List Nat} (h : OwnB w v l) (hx : Ext F w w') (hF : ∀ k ∈ vblocks v, k ∉ F) : OwnB w' v l := Own.keep h hx hF
theorem OwnB.lt {w : World} {v : Value} {l : List UInt8} (h : OwnB w v l) : ∀ k ∈ vblocks v, k < w.heap.size := Own.lt h
theorem OwnB.nil (w : World) : OwnB w (.slice none 0 0) [] := Own.nil w _ _
/-- What a call that appends to v leaves: v' owns l; of the old blocks v's alone may have turned. -/
def Laid (w : World) (v : Value) (l : List UInt8) (e : Ending) (w' : World) : Prop :=
  ∃ v', e = .returned v' ∧ OwnB w' v' l ∧ Ext (vblocks v) w w' ∧ (∀ k ∈ vblocks v', k ∈ vblocks v ∨ w.heap.size ≤ k)

theorem num_byte (n : Int) (j : Nat) : min (max n 0) 281474976710655 / 2 ^ (40 - 8 * j) % 256 = ((UInt8.ofNat (clamp n / 2 ^ (40 - 8 * j))).toNat : Int) := by
  rw [ofNat_toNat_int, Int.natCast_ediv, clamp_cast]
  simp

set_option maxHeartbeats 400000 in
theorem num_any (v : Value) (l : List UInt8) (a : Option Addr) (len cap : Nat) (ns : List Int) (w : World) (hlen : len ≤ 1000000) (hll : l.length ≤ 1000000000)
    (ho : OwnB w v l) (hR : Rd w 1 (.slice a len cap) len (ns.map (Value.int .i64))) (hbv : ∀ k ∈ vblocks (.slice a len cap), k ∉ vblocks v) :
    Calls Try.prog 68 #[v, .slice a len cap] w (Laid w v (l ++ encNums ns)) := by
  have hl : ns.length = len := by have := hR.len.2.2.2; simpa using this
  unfold OwnB at ho
  go_enter Try.func68, Try.ntmps68
  go_wp2
  go_loopw [0, 11] (fun v' i wr => ∃ k : Nat, k ≤ len ∧ i = .int .i64 k ∧ Own wr 5 1 v' (l ++ encNums (ns.take k)).length (bcells (l ++ encNums (ns.take k))) ∧ Ext (vblocks v) w wr ∧ (∀ k ∈ vblocks v', k ∈ vblocks v ∨ w.heap.size ≤ k)) (fun _ i _ => len - (intOf i).toNat)
  case atStart => exact ⟨0, by omega, rfl, by simpa [encNums] using ho, Ext.refl _ _, fun k hk => .inl hk⟩
  case round =>
    clear ho
    obtain ⟨k, hk, rfl, hor, hx, hv⟩ := hrel
    by_cases hlt : k < len
    · obtain ⟨b, off, rfl, hbw, hc⟩ := hR.view (by omega)
      have h1 := hx.cell (p := ⟨b, off + k, none⟩) (hbv b (by simp [vblocks])) (hc k (.int .i64 (ns.getD k 0)) (by simp [List.getD, show k < ns.length by omega]))
      have htk : Hid (ns.take (k + 1) = ns.take k ++ [ns.getD k 0]) := take_succ_get ns k 0 (by omega)
      obtain ⟨n, hn⟩ : ∃ n, n = ns.getD k 0 := ⟨_, rfl⟩
      rw [← hn] at h1 htk
      have hln : (l ++ encNums (ns.take k)).length ≤ 1010000000 := by rw [List.length_append, encNums_length, List.length_take]; omega
      obtain ⟨l2, hl2⟩ : ∃ l2, l2 = l ++ encNums (ns.take k) := ⟨_, rfl⟩
      rw [← hl2] at hor hln
      have HL2 : Hid (l2 = l ++ encNums (ns.take k)) := hl2
      clear hn hc hl2 hl hR hbv
      go_wp2
      go_loopw [0, 8] (fun v' i wr => ∃ j : Nat, j ≤ 6 ∧ i = .int .i64 (40 - 8 * j) ∧ Own wr 5 1 v' (l2 ++ (be6 (clamp n)).take j).length (bcells (l2 ++ (be6 (clamp n)).take j)) ∧ Ext (vblocks v) w wr ∧ (∀ k ∈ vblocks v', k ∈ vblocks v ∨ w.heap.size ≤ k)) (fun _ i _ => (intOf i + 8).toNat)
      case atStart => exact ⟨0, by omega, rfl, by simpa using hor, hx, hv⟩
      case round =>
        clear hor hx hv
        obtain ⟨j, hj, rfl, hor, hx, hv⟩ := hrel
        by_cases hlt : j < 6
        · have a1 : 0 ≤ 40 - 8 * (j : Int) := by omega
          have a2 : 40 - 8 * (j : Int) ≤ 40 := by omega
          have hl3 : (l2 ++ (be6 (clamp n)).take j).length ≤ 1010000010 := by rw [List.length_append, List.length_take, be6_length]; omega
          go_wp2_with (first | ((with_reducible refine wpl_append (d := some 29) 5 (.int .u8 0) 1 1 el_bytes _ _ _ ?_ (hor.alloc _) (.slice (some ⟨wr.heap.size, 0, none⟩) 1 1) 1 (bcells [UInt8.ofNat (clamp n / 2 ^ (40 - 8 * j))]) ?_ ?_ (bcells_one _) ?_ ?_ ?_)))
          · rfl
          · rfl
          · exact Rd.byte (num_byte n j)
          · omega
          · unfold maxLen; omega
          · intro v' w' ho' hx' hv' _
            have hs := hx.size
            have hx2 : Ext (vblocks v) w w' := (hx.alloc _).trans hx' hv
            have hv2 := vb_step (m := (wr.alloc (.cells #[.int .u8 (min (max n 0) 281474976710655 / 2 ^ (40 - 8 * j) % 256)] 5)).heap.size) hv hv' (by simp; omega)
            have ho2 : Own w' 5 1 v' (l2 ++ (be6 (clamp n)).take (j + 1)).length (bcells (l2 ++ (be6 (clamp n)).take (j + 1))) := by
              rw [be6_take_succ _ _ hlt, ← List.append_assoc, bcells_append, List.length_append]; exact ho'
            clear ho' hx' hv' hor hx hv
            go_wp2
            go_roundw
            case rel => exact ⟨j + 1, by omega, by congr 1; omega, ho2, hx2, hv2⟩
            case measure => simp [intOf]; omega
        · have hj6 : j = 6 := by omega
          have ho2 : Own wr 5 1 u0 (l ++ encNums (ns.take (k + 1))).length (bcells (l ++ encNums (ns.take (k + 1)))) := by
            rw [htk.out, encNums_append, ← List.append_assoc, ← HL2.out, encNums_one]
            rw [hj6, List.take_of_length_le (by rw [be6_length]; omega)] at hor
            exact hor
          clear hor hj6
          go_wp2
          go_roundw
          case rel => exact ⟨k + 1, by omega, by go_num, ho2, hx, hv⟩
          case measure => simp [intOf]; omega
    · have hkl : k = len := by omega
      have hor2 : Own wr 5 1 u0 (l ++ encNums ns).length (bcells (l ++ encNums ns)) := by
        rw [hkl, List.take_of_length_le (by omega)] at hor; exact hor
      clear hor hkl
      go_wp2
      go_ret
      exact ⟨_, rfl, hor2, hx, hv⟩

/-- A string of these bytes. -/
abbrev str (l : List UInt8) : Value := .string ⟨l.toArray⟩

theorem take_extract (l : List UInt8) (k : Nat) (h : k ≤ l.length) : ByteArray.extract ⟨l.toArray⟩ 0 k = ⟨(l.take k).toArray⟩ := by
  rw [ByteArray.extract_mk, List.drop_zero, Nat.sub_zero]
theorem drop_extract (l : List UInt8) (k : Nat) (h : k ≤ l.length) : ByteArray.extract ⟨l.toArray⟩ k l.length = ⟨(l.drop k).toArray⟩ := by
  rw [ByteArray.extract_mk]
  congr 2
  exact List.take_of_length_le (by rw [List.length_drop]; exact Nat.le_refl _)

theorem mid_extract (l : List UInt8) (k m : Nat) : ByteArray.extract ⟨l.toArray⟩ k (k + m) = ⟨((l.drop k).take m).toArray⟩ := by
  rw [ByteArray.extract_mk, Nat.add_sub_cancel_left]
theorem cut16_min (t : List UInt8) : (cut16 t).length = min (min (t.length : Int) 65535).toNat t.length := by simp [cut16]; omega
theorem cut16_extract (t : List UInt8) : ByteArray.extract ⟨t.toArray⟩ 0 (min (t.length : Int) 65535).toNat = ⟨(cut16 t).toArray⟩ := by
  rw [ByteArray.extract_mk, List.drop_zero, Nat.sub_zero, cut16]
  congr 2
  rw [List.take_eq_take_iff]
  omega
set_option maxHeartbeats 400000 in
theorem text_any (v : Value) (l : List UInt8) (a : Option Addr) (len cap : Nat) (ts : List (List UInt8)) (w : World) (hlen : len ≤ 1000000) (hll : l.length ≤ 1000000000)
    (ho : OwnB w v l) (hR : Rd w 1 (.slice a len cap) len (ts.map str)) (hbv : ∀ k ∈ vblocks (.slice a len cap), k ∉ vblocks v) :
    Calls Try.prog 67 #[v, .slice a len cap] w (Laid w v (l ++ encTexts ts)) := by
  have hl : ts.length = len := by have := hR.len.2.2.2; simpa using this
  unfold OwnB at ho
  go_enter Try.func67, Try.ntmps67
  go_wp2
  go_loopw [0, 9] (fun v' i wr => ∃ k : Nat, k ≤ len ∧ i = .int .i64 k ∧ Own wr 5 1 v' (l ++ encTexts (ts.take k)).length (bcells (l ++ encTexts (ts.take k))) ∧ Ext (vblocks v) w wr ∧ (∀ k ∈ vblocks v', k ∈ vblocks v ∨ w.heap.size ≤ k)) (fun _ i _ => len - (intOf i).toNat)
  case atStart => exact ⟨0, by omega, rfl, by simpa [encTexts] using ho, Ext.refl _ _, fun k hk => .inl hk⟩
  case round =>
    clear ho
    obtain ⟨k, hk, rfl, hor, hx, hv⟩ := hrel
    by_cases hlt : k < len
    · obtain ⟨b, off, rfl, hbw, hc⟩ := hR.view (by omega)
      have h1 := hx.cell (p := ⟨b, off + k, none⟩) (hbv b (by simp [vblocks])) (hc k (str (ts.getD k [])) (by simp [List.getD, show k < ts.length by omega]))
      have htk : Hid (ts.take (k + 1) = ts.take k ++ [ts.getD k []]) := take_succ_get ts k [] (by omega)
      obtain ⟨t, hn⟩ : ∃ n, n = ts.getD k [] := ⟨_, rfl⟩
      rw [← hn] at h1 htk
      have hln : (l ++ encTexts (ts.take k)).length ≤ 67000000000 := by
        have := encTexts_le (ts.take k)
        rw [List.length_append]; rw [List.length_take] at this; omega
      obtain ⟨l2, hl2⟩ : ∃ l2, l2 = l ++ encTexts (ts.take k) := ⟨_, rfl⟩
      rw [← hl2] at hor hln
      have HL2 : Hid (l2 = l ++ encTexts (ts.take k)) := hl2
      clear hn hc hl2 hl hR hbv
      go_wp2_with (first | ((with_reducible refine wpl_append (d := some 27) 5 (.int .u8 0) 1 1 el_bytes _ _ _ ?_ (hor.alloc _) (.slice (some ⟨wr.heap.size, 0, none⟩) 2 2) 2 (bcells (be2 (cut16 t).length)) ?_ ?_ (bcells_one _) ?_ ?_ ?_)))
      · rfl
      · rfl
      · exact Rd.byte2 (by rw [ofNat_toNat_int]; have := cut16_min t; omega) (by rw [ofNat_toNat_int]; have := cut16_min t; omega)
      · omega
      · unfold maxLen; omega
      · intro v' w' ho' hx' hv' _
        have hs := hx.size
        have hx2 : Ext (vblocks v) w w' := (hx.alloc _).trans hx' hv
        have hv2 := vb_step hv hv' (by simp; omega)
        clear hx' hv' hor hx hv
        have hsz : (ByteArray.extract ⟨t.toArray⟩ 0 (min (t.length : Int) 65535).toNat).size = (cut16 t).length := by rw [cut16_extract]; rfl
        have hcl := cut16_le t
        go_wp2_with (first | ((with_reducible refine wpl_append_str (d := some 30) 5 el_bytes Try.underlying9 _ _ _ ?_ ho' (ByteArray.extract ⟨t.toArray⟩ 0 (min (t.length : Int) 65535).toNat) ?_ ?_ ?_)))
        · rfl
        · rfl
        · omega
        · intro v3 w3 ho3 hx3 hv3
          have hx4 : Ext (vblocks v) w w3 := hx2.trans hx3 hv2
          have hv4 := vb_step hv2 hv3 (by have := hx2.size; omega)
          have ho4 : Own w3 5 1 v3 (l ++ encTexts (ts.take (k + 1))).length (bcells (l ++ encTexts (ts.take (k + 1)))) := by
            rw [hsz, cut16_extract] at ho3
            rw [htk.out, encTexts_append, ← List.append_assoc, ← HL2.out, encTexts_one, encText, ← List.append_assoc, bcells_append, bcells_append, List.length_append, List.length_append]
            have e2 : (be2 (cut16 t).length).length = 2 := rfl
            rw [e2]
            exact ho3
          clear ho' ho3 hx3 hv3 hx2 hv2 hsz
          go_wp2
          go_roundw
          case rel => exact ⟨k + 1, by omega, by go_num, ho4, hx4, hv4⟩
          case measure => simp [intOf]; omega
    · have hkl : k = len := by omega
      have hor2 : Own wr 5 1 u0 (l ++ encTexts ts).length (bcells (l ++ encTexts ts)) := by
        rw [hkl, List.take_of_length_le (by omega)] at hor; exact hor
      clear hor hkl
      go_wp2
      go_ret
      exact ⟨_, rfl, hor2, hx, hv⟩

/-- string([]byte{c}), for the walk. -/
theorem run_str1 (W : World) (c : UInt8) : (convert 62 9 (.slice (some ⟨W.heap.size, 0, none⟩) 1 1)).run Try.prog (W.alloc (.cells #[.int .u8 (c.toNat : Int)] 5)) = .ok (.string ⟨[c].toArray⟩) (W.alloc (.cells #[.int .u8 (c.toNat : Int)] 5)) :=
  run_string_Rd _ _ 5 Try.underlying62 Try.underlying5 Try.underlying9 _ _ [c] (Rd.byte rfl)
theorem run_str2 (W : World) (c d : UInt8) : (convert 62 9 (.slice (some ⟨W.heap.size, 0, none⟩) 2 2)).run Try.prog (W.alloc (.cells #[.int .u8 (c.toNat : Int), .int .u8 (d.toNat : Int)] 5)) = .ok (.string ⟨[c, d].toArray⟩) (W.alloc (.cells #[.int .u8 (c.toNat : Int), .int .u8 (d.toNat : Int)] 5)) :=
  run_string_Rd _ _ 5 Try.underlying62 Try.underlying5 Try.underlying9 _ _ [c, d] (Rd.byte2 rfl rfl)
/-- The same, of numbers that are a byte's. -/
theorem run_str1n (W : World) (E : Int) (c : UInt8) (h : E = (c.toNat : Int)) : (convert 62 9 (.slice (some ⟨W.heap.size, 0, none⟩) 1 1)).run Try.prog (W.alloc (.cells #[.int .u8 E] 5)) = .ok (.string ⟨[c].toArray⟩) (W.alloc (.cells #[.int .u8 E] 5)) := by
  subst h; exact run_str1 W c
theorem run_str2n (W : World) (E F : Int) (c d : UInt8) (h : E = (c.toNat : Int)) (h' : F = (d.toNat : Int)) : (convert 62 9 (.slice (some ⟨W.heap.size, 0, none⟩) 2 2)).run Try.prog (W.alloc (.cells #[.int .u8 E, .int .u8 F] 5)) = .ok (.string ⟨[c, d].toArray⟩) (W.alloc (.cells #[.int .u8 E, .int .u8 F] 5)) := by
  subst h; subst h'; exact run_str2 W c d
end Go.Proofs.Ytmjgbkepngeckaa
