/- The contracts of layer 2: Add, Of. -/
import Derived.Test.YtmjgbkepngeckaaPith
import Derived.Test.YtmjgbkepngeckaaSumPlain
namespace Go.Proofs.Ytmjgbkepngeckaa
open Go.RowKit
set_option linter.unusedVariables false

theorem wrap_u32v (x : BitVec 32) : IntKind.u32.wrap (u32v x) = u32v x := by
  have := u32v_lo x; have := u32v_hi x
  rw [IntKind.wrap_u32]; omega
theorem unary_xor32 (n : Int) : Op.unary .xor (.int .u32 n) = pure (.int .u32 (bits .xor .u32 4294967295 n)) := by
  rw [unary_xor, intBits_xor]
  rfl
theorem b32_xor (x y : BitVec 32) : bits .xor .u32 (u32v x) (u32v y) = u32v (x ^^^ y) := by
  have h : bits .xor .u32 (u32v x) (u32v y) = IntKind.u32.wrap (u32v (x ^^^ y)) := by
    simp only [bits, u32v]
    rw [BitVec.ofInt_natCast, BitVec.ofInt_natCast]
    simp [IntKind.bits]
    rfl
  rw [h, wrap_u32v]
theorem b32_and (x y : BitVec 32) : bits .and .u32 (u32v x) (u32v y) = u32v (x &&& y) := by
  have h : bits .and .u32 (u32v x) (u32v y) = IntKind.u32.wrap (u32v (x &&& y)) := by
    simp only [bits, u32v]
    rw [BitVec.ofInt_natCast, BitVec.ofInt_natCast]
    simp [IntKind.bits]
    rfl
  rw [h, wrap_u32v]
theorem b32_not (x : BitVec 32) : bits .xor .u32 4294967295 (u32v x) = u32v (~~~ x) := by
  have := b32_xor (BitVec.allOnes 32) x
  rw [show u32v (BitVec.allOnes 32) = 4294967295 by decide] at this
  rw [this, BitVec.allOnes_xor]
theorem b32_byte (x : BitVec 32) (c : UInt8) : bits .xor .u32 (u32v x) (c.toNat : Int) = u32v (inB x c) := by
  have := b32_xor x (BitVec.ofNat 32 c.toNat)
  rw [show u32v (BitVec.ofNat 32 c.toNat) = (c.toNat : Int) by
    have := c.toNat_lt
    unfold u32v; rw [BitVec.toNat_ofNat]; omega] at this
  exact this
theorem b32_poly (x : BitVec 32) : bits .xor .u32 (u32v x) 2197175160 = u32v (x ^^^ poly) := b32_xor x poly
theorem b32_one (x : BitVec 32) : bits .and .u32 (u32v x) 1 = u32v (x &&& 1#32) := b32_and x 1#32
theorem b32_half (x : BitVec 32) : u32v x / 2 = u32v (x >>> 1) := by
  unfold u32v
  rw [BitVec.toNat_ushiftRight, Nat.shiftRight_eq_div_pow]
  omega
theorem b32_odd (x : BitVec 32) : (u32v (x &&& 1#32) == 1) = decide (x &&& 1#32 = 1#32) := by
  rw [show (1 : Int) = u32v 1#32 from rfl, u32v_beq]
  rfl
attribute [local go_sem high] unary_xor32
attribute [local go_sem] b32_xor b32_and b32_not b32_byte b32_poly b32_one b32_half b32_odd wrap_u32v

set_option maxHeartbeats 800000 in
theorem add_any (s : BitVec 32) (a : Option Addr) (len cap : Nat) (ts : List (List UInt8)) (w : World) (hlen : len ≤ 1000000000) (hts : ∀ t ∈ ts, t.length ≤ maxLen)
    (hR : Rd w 1 (.slice a len cap) len (ts.map str)) :
    Calls Try.prog 69 #[.int .u32 (u32v s), .slice a len cap] w fun e w' => e = .returned (.int .u32 (u32v (sumAdd s ts.flatten))) ∧ Ext [] w w' := by
  have hl : ts.length = len := by have := hR.len.2.2.2; simpa using this
  go_enter Try.func69, Try.ntmps69
  go_wp2
  go_loopw [5, 14] (fun x i wr => ∃ k : Nat, k ≤ len ∧ i = .int .i64 k ∧ x = .int .u32 (u32v (upd (~~~ s) (ts.take k).flatten)) ∧ Ext [] w wr) (fun _ i _ => len - (intOf i).toNat)
  case atStart => exact ⟨0, by omega, rfl, rfl, Ext.refl _ _⟩
  case round =>
    obtain ⟨k, hk, rfl, rfl, hx⟩ := hrel
    by_cases hlt : k < len
    · obtain ⟨b, off, rfl, hbw, hc⟩ := hR.view (by omega)
      have h1 := hx.cell (p := ⟨b, off + k, none⟩) (by simp) (hc k (str (ts.getD k [])) (by simp [List.getD, show k < ts.length by omega]))
      have htk : Hid (ts.take (k + 1) = ts.take k ++ [ts.getD k []]) := take_succ_get ts k [] (by omega)
      have htl : (ts.getD k []).length ≤ maxLen := by
        rw [List.getD, List.getElem?_eq_getElem (by omega)]
        exact hts _ (List.getElem_mem _)
      obtain ⟨t, hn⟩ : ∃ n, n = ts.getD k [] := ⟨_, rfl⟩
      rw [← hn] at h1 htk htl
      obtain ⟨x0, hx0⟩ : ∃ x, x = upd (~~~ s) (ts.take k).flatten := ⟨_, rfl⟩
      rw [← hx0]
      have HX0 : Hid (x0 = upd (~~~ s) (ts.take k).flatten) := hx0
      clear hn hc hl hR hx0 hts
      have htl2 : t.length ≤ 9223372036854775807 := by unfold maxLen at htl; omega
      go_wp2_with (first | ((with_reducible refine wpl_bytes (d := some 19) 5 Try.underlying9 Try.underlying62 Try.underlying5 ⟨t.toArray⟩ ?_ ?_ ?_)))
      · rfl
      · exact htl
      intro cp w2 ho hx2 hsz
      have hx3 : Ext [] w w2 := hx.then0 hx2
      have ho' : Own w2 5 1 (.slice (some ⟨wr.heap.size, 0, none⟩) t.length cp) t.length (bcells t) := ho
      clear ho hx hx2 htl
      obtain ⟨g, hg⟩ : ∃ g, g = wr.heap.size := ⟨_, rfl⟩
      rw [← hg] at ho' hsz ⊢
      clear hg h1
      go_wp2
      go_loop [5, 21] (fun x i => ∃ j : Nat, j ≤ t.length ∧ i = .int .i64 j ∧ x = .int .u32 (u32v (upd x0 (t.take j)))) (fun _ i => t.length - (intOf i).toNat)
      case atStart => exact ⟨0, by omega, rfl, rfl⟩
      case round =>
        obtain ⟨j, hj, rfl, rfl⟩ := hrel
        by_cases hjt : j < t.length
        · have hcell := ho'.cell j (by omega)
          rw [Nat.zero_add, bcells, List.getElem?_map, List.getElem?_eq_getElem hjt, Option.map_some] at hcell
          have htj : Hid (upd x0 (t.take (j + 1)) = byt (upd x0 (t.take j)) t[j]) := by
            show _ = _
            rw [List.take_succ_eq_append_getElem hjt, upd_snoc]
          obtain ⟨c, hcc⟩ : ∃ c, c = t[j] := ⟨_, rfl⟩
          rw [← hcc] at hcell htj
          obtain ⟨x1, hx1⟩ : ∃ x, x = upd x0 (t.take j) := ⟨_, rfl⟩
          rw [← hx1] at htj ⊢
          have hcb := c.toNat_lt
          clear ho' hcc hx1
          go_wp2
          go_loop [5, 29] (fun x i => ∃ m : Nat, m ≤ 8 ∧ i = .int .i64 m ∧ x = .int .u32 (u32v (stps m (inB x1 c)))) (fun _ i => 8 - (intOf i).toNat)
          case atStart => exact ⟨0, by omega, rfl, rfl⟩
          case round =>
            obtain ⟨m, hm, rfl, rfl⟩ := hrel
            by_cases hm8 : m < 8
            · obtain ⟨y, hy⟩ : ∃ y, y = stps m (inB x1 c) := ⟨_, rfl⟩
              have HY : Hid (stps (m + 1) (inB x1 c) = stp y) := by show stp _ = _; rw [hy]
              rw [← hy]
              clear hcell hy
              by_cases hodd : y &&& 1#32 = 1#32
              · have HS : Hid (stp y = (y >>> 1) ^^^ poly) := if_pos hodd
                go_wp2
                go_round
                case rel => exact ⟨m + 1, by omega, by go_num, by rw [HY.out, HS.out]; exact congrArg (Value.int .u32) ((congrArg (fun z => bits .xor .u32 z 2197175160) (b32_half y)).trans (b32_poly _))⟩
                case measure => simp [intOf]; omega
              · have HS : Hid (stp y = y >>> 1) := if_neg hodd
                go_wp2
                go_round
                case rel => exact ⟨m + 1, by omega, by go_num, by rw [HY.out, HS.out]; exact congrArg (Value.int .u32) (b32_half y)⟩
                case measure => simp [intOf]; omega
            · have hm9 : m = 8 := by omega
              subst hm9
              have htj2 : Hid (upd x0 (t.take (j + 1)) = stps 8 (inB x1 c)) := htj.out
              clear hcell
              go_wp2
              go_round
              case rel => exact ⟨j + 1, by omega, by go_num, by rw [htj2.out]⟩
              case measure => simp [intOf]; omega
        · have hjt2 : j = t.length := by omega
          subst hjt2
          rw [List.take_of_length_le (Nat.le_refl _)]
          have HU : Hid (upd (~~~ s) (ts.take (k + 1)).flatten = upd x0 t) := by
            show _ = _
            rw [htk.out, List.flatten_append, upd_append, ← HX0.out]
            simp
          clear ho'
          go_wp2
          go_roundw
          case rel => exact ⟨k + 1, by omega, by go_num, by rw [HU.out], hx3⟩
          case measure => simp [intOf]; omega
    · have hkl : k = len := by omega
      subst hkl
      rw [List.take_of_length_le (by omega)]
      go_wp2
      go_ret
      exact ⟨rfl, hx⟩

theorem of_any (a : Option Addr) (len cap : Nat) (ts : List (List UInt8)) (w : World) (hlen : len ≤ 1000000000) (hts : ∀ t ∈ ts, t.length ≤ maxLen)
    (hR : Rd w 1 (.slice a len cap) len (ts.map str)) :
    Calls Try.prog 66 #[.slice a len cap] w fun e w' => e = .returned (.int .u32 (u32v (sumOf ts.flatten))) ∧ Ext [] w w' := by
  go_enter Try.func66, Try.ntmps66
  go_wp2_with fail
  refine (add_any 0#32 a len cap ts w hlen hts hR).mono ?_
  rintro e w1 ⟨rfl, hx⟩
  go_wp2
  go_ret
  exact ⟨rfl, hx⟩

theorem Rd.strs1 {w : World} {e : TypeId} {g : Nat} (l : List UInt8) (hg : w.heap.size = g := by simp) : Rd (w.alloc (.cells #[.string ⟨l.toArray⟩] e)) 1 (.slice (some ⟨g, 0, none⟩) 1 1) 1 ([l].map str) :=
  Rd.litg #[.string ⟨l.toArray⟩] e 1 1 rfl (by unfold maxLen; omega) hg
theorem byte_of {E : Int} {y : Nat} (h : E = (y : Int) % 256) : E = ((UInt8.ofNat y).toNat : Int) := by rw [ofNat_toNat_int]; exact h

set_option maxRecDepth 10000 in
set_option maxHeartbeats 400000 in
theorem seal_any (l : List UInt8) (w : World) (hl : l.length ≤ 1000000000000) :
    Calls Try.prog 60 #[str l] w fun e w' => e = .returned (str (sealB l)) ∧ Ext [] w w' := by
  go_enter Try.func60, Try.ntmps60
  go_wp2_with fail
  refine (of_any _ _ _ [l] _ (by omega) (by unfold maxLen; simp; omega) (Rd.strs1 l)).mono ?_
  rintro e w1 ⟨rfl, hx⟩
  have hx1 : Ext [] w w1 := ((Ext.refl [] w).alloc _).then0 hx
  rw [List.flatten_singleton]
  clear hx
  obtain ⟨x, hxx⟩ : ∃ x, x = sumOf l := ⟨_, rfl⟩
  rw [← hxx]
  have HX : Hid (x = sumOf l) := hxx
  clear hxx
  have b0 := u32v_lo x
  have b1 := u32v_hi x
  have hrd : Rd (w1.alloc (.cells #[.int .u8 (u32v x % 256), .int .u8 (u32v x / 256 % 256), .int .u8 (u32v x / 65536 % 256), .int .u8 (u32v x / 16777216)] 5)) 1 (.slice (some ⟨w1.heap.size, 0, none⟩) 4 4) 4 (bcells (le4 x)) := by
    have e : bcells (le4 x) = #[Value.int .u8 (u32v x % 256), .int .u8 (u32v x / 256 % 256), .int .u8 (u32v x / 65536 % 256), .int .u8 (u32v x / 16777216)].toList := by
      simp only [bcells, le4, List.map_cons, List.map_nil, ofNat_toNat_int]
      unfold u32v at *
      have e1 : ((x.toNat / 256 : Nat) : Int) % 256 = (x.toNat : Int) / 256 % 256 := by omega
      have e2 : ((x.toNat / 65536 : Nat) : Int) % 256 = (x.toNat : Int) / 65536 % 256 := by omega
      have e3 : ((x.toNat / 16777216 : Nat) : Int) % 256 = (x.toNat : Int) / 16777216 := by omega
      rw [e1, e2, e3]
    rw [e]
    exact Rd.lit w1 _ 5 1 4 rfl (by unfold maxLen; omega)
  have hs := run_string_Rd (P := Try.prog) 62 9 5 Try.underlying62 Try.underlying5 Try.underlying9 _ _ _ hrd
  have hq : (le4 x).length = 4 := le4_length x
  clear hrd
  go_wp2
  go_ret
  exact ⟨by rw [sealB, ← HX.out]; rfl, hx1.alloc _⟩

set_option maxHeartbeats 400000 in
theorem open_any (l : List UInt8) (w : World) (hl : l.length ≤ 1000000000000) :
    Calls Try.prog 49 #[str l] w fun e w' => e = .returned (.tuple #[str (openB l), .bool (opens l)]) ∧ Ext [] w w' := by
  by_cases h4 : l.length < 4
  · have ho : opens l = false := by simp [opens]; omega
    have hb : openB l = [] := by rw [openB, ho]; rfl
    rw [ho, hb]
    clear ho hb
    go_enter Try.func49, Try.ntmps49
    go_wp2
    go_ret2
    exact ⟨rfl, Ext.refl _ _⟩
  · have hx4 : Hid (ByteArray.extract ⟨l.toArray⟩ 4 l.length = ⟨(l.drop 4).toArray⟩) := drop_extract l 4 (by omega)
    go_enter Try.func49, Try.ntmps49
    go_wp2_with fail
    rw [hx4.out]
    refine (seal_any (l.drop 4) w (by rw [List.length_drop]; omega)).mono ?_
    rintro e w1 ⟨rfl, hx⟩
    by_cases hs : sealB (l.drop 4) = l
    · have ho : opens l = true := by simp [opens, hs]; omega
      have hb : openB l = l.drop 4 := by rw [openB, ho]; rfl
      have HB : Hid (openB l = l.drop 4) := hb
      have HO : Hid (opens l = true) := ho
      have hs2 : (sealB (l.drop 4) == l) = true := by rw [hs]; simp
      clear ho hb hs
      go_wp2
      go_ret2
      exact ⟨by rw [HO.out, HB.out, hx4.out]; rfl, hx⟩
    · have ho : opens l = false := by simp [opens, hs]
      have hb : openB l = [] := by rw [openB, ho]; rfl
      have hs2 : (sealB (l.drop 4) == l) = false := by simp [hs]
      have HB : Hid (openB l = []) := hb
      have HO : Hid (opens l = false) := ho
      clear ho hb hs
      go_wp2
      go_ret2
      exact ⟨by rw [HO.out, HB.out]; rfl, hx⟩

theorem Rd.strs2 {w : World} {e : TypeId} {g : Nat} (l m : List UInt8) (hg : w.heap.size = g := by simp) : Rd (w.alloc (.cells #[.string ⟨l.toArray⟩, .string ⟨m.toArray⟩] e)) 1 (.slice (some ⟨g, 0, none⟩) 2 2) 2 ([l, m].map str) :=
  Rd.litg #[.string ⟨l.toArray⟩, .string ⟨m.toArray⟩] e 1 2 rfl (by unfold maxLen; omega) hg
end Go.Proofs.Ytmjgbkepngeckaa
