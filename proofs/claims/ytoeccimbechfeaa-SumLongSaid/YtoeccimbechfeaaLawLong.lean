/- SumLong: the walk. -/
import Derived.Test.YtoeccimbechfeaaLongLaw
import Derived.Test.YtoeccimbechfeaaSum
import Derived.Test.YtoeccimbechfeaaBits
import Derived.Test.YtoeccimbechfeaaStep
namespace Go.Proofs.Ytoeccimbechfeaa
open Go.RowKit
set_option linter.unusedVariables false
set_option linter.unusedSimpArgs false

theorem u8_and1 (n : Nat) (h : n < 256) : bits .and .u8 (n : Int) 1 = ((n % 2 : Nat) : Int) := by
  have h2 : ∀ y : Fin 256, bits .and .u8 (y.val : Int) 1 = ((y.val % 2 : Nat) : Int) := by decide +kernel
  exact h2 ⟨n, h⟩
theorem bit_val (c : UInt8) (k : Nat) : ((c.toNat / 2 ^ k % 2 : Nat) : Int) = ((bitB c k).toNat : Int) := by rw [bitB_nat]
theorem pbit_val (j : Nat) (hj : j < 33) : bits .and .u64 (4812730177 / 2 ^ (32 - j)) 1 % 256 = ((pbit j).toNat : Int) := by
  have h : ∀ j : Fin 33, bits .and .u64 (4812730177 / 2 ^ (32 - j.val)) 1 % 256 = ((pbit j.val).toNat : Int) := by decide +kernel
  exact h ⟨j, hj⟩
theorem b32_or (x y : BitVec 32) : bits .or .u32 (u32v x) (u32v y) = u32v (x ||| y) := by
  have h : bits .or .u32 (u32v x) (u32v y) = IntKind.u32.wrap ((x ||| y).toNat : Int) := by
    simp only [bits, u32v]
    rw [BitVec.ofInt_natCast, BitVec.ofInt_natCast]
    congr 2
    show (BitVec.ofNat 32 x.toNat ||| BitVec.ofNat 32 y.toNat).toNat = _
    rw [BitVec.ofNat_toNat, BitVec.ofNat_toNat]; simp
  rw [h, IntKind.wrap_u32]
  have := (x ||| y).isLt
  unfold u32v
  omega
theorem shl_val (z : UInt8) (j : Nat) : ((z.toNat : Int) % 4294967296 * 2 ^ j % 4294967296) = u32v (BitVec.ofNat 32 z.toNat <<< j) := by
  unfold u32v
  rw [BitVec.toNat_shiftLeft, BitVec.toNat_ofNat, Nat.shiftLeft_eq]
  have := z.toNat_lt
  rw [Nat.mod_eq_of_lt (show z.toNat < 2 ^ 32 by omega), Int.natCast_emod, Int.natCast_mul, Int.natCast_pow]
  rw [Int.emod_eq_of_lt (by omega) (by omega : (z.toNat : Int) < 4294967296)]
  rfl
set_option maxRecDepth 100000 in
set_option maxHeartbeats 20000000 in
theorem long_any (l : List UInt8) (hl : l.length ≤ 200) (w : World) : Calls Try.prog 20 #[str l] w fun e w' => e = .returned (.int .u32 (u32v (longS l))) ∧ Ext [] w w' := by
  go_enter Try.func20, Try.ntmps20
  go_wp2_with fail
  go_loopw [3, 4] (fun v i wr => ∃ k : Nat, k ≤ l.length ∧ i = .int .i64 k ∧ OwnB wr v (bitsS (l.take k)) ∧ Ext [] w wr ∧ ∀ x ∈ vblocks v, w.heap.size ≤ x) (fun _ i _ => l.length - (intOf i).toNat)
  case atStart => exact ⟨0, by omega, rfl, Own.lit w #[] 5 1 0 rfl (by omega), (Ext.refl _ _).alloc _, by simp [vblocks]⟩
  case round =>
    obtain ⟨k, hk, rfl, ho, hx, hv⟩ := hrel
    by_cases hlt : k < l.length
    · have HT : Hid (bitsS (l.take (k + 1)) = bitsS (l.take k) ++ bitsN l[k] 8) := by
        show _ = _
        rw [List.take_succ_eq_append_getElem hlt, bitsS_append, bitsS_one]
      have hol : (bitsS (l.take k)).length ≤ 1600 := by rw [bitsS_length, List.length_take]; omega
      have i0 : ∀ W, (Instr.index 9 (str l) (.int .i64 (k : Int))).run Try.prog W = .ok (.int .u8 (l[k].toNat : Int)) W := fun W => run_str_at _ l k W Try.underlying9 hlt
      obtain ⟨c, hc⟩ : ∃ c, c = l[k] := ⟨_, rfl⟩
      rw [← hc] at i0 HT
      obtain ⟨o, hoo⟩ : ∃ o, o = bitsS (l.take k) := ⟨_, rfl⟩
      rw [← hoo] at ho HT hol
      clear hc hoo
      go_wp2_with fail
      go_loopw [3, 5] (fun v j wr => ∃ m : Nat, m ≤ 8 ∧ j = .int .i64 m ∧ OwnB wr v (o ++ bitsN c m) ∧ Ext [] w wr ∧ ∀ x ∈ vblocks v, w.heap.size ≤ x) (fun _ j _ => 8 - (intOf j).toNat)
      case atStart => exact ⟨0, by omega, rfl, by simpa [bitsN] using ho, hx, hv⟩
      case round =>
        clear ho hx hv
        obtain ⟨m, hm, rfl, ho, hx, hv⟩ := hrel
        by_cases hlt8 : m < 8
        · have hc8 := c.toNat_lt
          have e2 : (c.toNat : Int) / 2 ^ m = ((c.toNat / 2 ^ m : Nat) : Int) := by rw [Int.natCast_ediv, Int.natCast_pow]; rfl
          have hand : bits .and .u8 ((c.toNat : Int) / 2 ^ m) 1 = ((bitB c m).toNat : Int) := by
            rw [e2, u8_and1 _ (Nat.lt_of_le_of_lt (Nat.div_le_self _ _) hc8), bit_val]
          have hol2 : (o ++ bitsN c m).length ≤ 1610 := by rw [List.length_append, bitsN_length]; omega
          have hs := hx.size
          have hown : Own wr 5 1 u3 (o ++ bitsN c m).length (bcells (o ++ bitsN c m)) := ho
          clear e2
          go_wp2_with (first | ((with_reducible refine wpl_append (d := some 34) 5 (.int .u8 0) 1 1 el_bytes _ _ _ ?_ (hown.alloc _) (.slice (some ⟨wr.heap.size, 0, none⟩) 1 1) 1 (bcells [bitB c m]) ?_ ?_ (bcells_one _) ?_ ?_ ?_)))
          · rfl
          · rfl
          · exact Rd.byte rfl
          · omega
          · unfold maxLen; omega
          · intro v' w' ho' hx' hv' _
            have hx2 : Ext [] w w' := (hx.alloc _).trans hx' (fun z hz => .inr (hv z hz))
            have hv2 : ∀ z ∈ vblocks v', w.heap.size ≤ z := by
              intro z hz
              rcases hv' with h | h
              · rw [h] at hz; exact hv z hz
              · rw [h] at hz; simp at hz; omega
            have ho2 : OwnB w' v' (o ++ bitsN c (m + 1)) := by
              rw [bitsN_succ, ← List.append_assoc]
              unfold OwnB; rw [bcells_append, List.length_append]; exact ho'
            clear ho' hx' hv' ho hx hv hand hown
            go_wp2
            go_roundw
            case rel => exact ⟨m + 1, by omega, by go_num, ho2, hx2, hv2⟩
            case measure => simp [intOf]; omega
        · obtain rfl : m = 8 := by omega
          rw [← HT.out] at ho
          go_wp2
          go_roundw
          case rel => exact ⟨k + 1, by omega, by go_num, ho, hx, hv⟩
          case measure => simp [intOf]; omega
    · obtain rfl : k = l.length := by omega
      rw [List.take_of_length_le (Nat.le_refl _)] at ho
      have hbl : (bitsS l).length = 8 * l.length := bitsS_length l
      obtain ⟨bs, hbs⟩ : ∃ b, b = bitsS l := ⟨_, rfl⟩
      rw [← hbs] at ho hbl
      have HBS : Hid (bs = bitsS l) := hbs
      clear hbs
      obtain ⟨a0, cap0, hvv⟩ := Rd.isSlice ho.rd
      subst hvv
      have hN : bs.length ≤ 1600 := by omega
      have HBL : Hid (bs.length = 8 * l.length) := hbl
      clear hbl
      go_wp2
      go_loopw [3, 7] (fun v i wr => ∃ k : Nat, k ≤ 32 ∧ i = .int .i64 k ∧ OwnB wr v (bs ++ List.replicate k 0) ∧ Ext [] w wr ∧ ∀ x ∈ vblocks v, w.heap.size ≤ x) (fun _ i _ => 32 - (intOf i).toNat)
      case atStart => exact ⟨0, by omega, rfl, by simpa using ho, hx, hv⟩
      case round =>
        clear ho hx hv
        obtain ⟨k, hk, rfl, ho, hx, hv⟩ := hrel
        by_cases hlt3 : k < 32
        · have hol2 : (bs ++ List.replicate k (0 : UInt8)).length ≤ 1640 := by rw [List.length_append, List.length_replicate]; omega
          have hs := hx.size
          have hown : Own wr 5 1 u3 (bs ++ List.replicate k (0 : UInt8)).length (bcells (bs ++ List.replicate k 0)) := ho
          go_wp2_with (first | ((with_reducible refine wpl_append (d := some 43) 5 (.int .u8 0) 1 1 el_bytes _ _ _ ?_ (hown.alloc _) (.slice (some ⟨wr.heap.size, 0, none⟩) 1 1) 1 (bcells [0]) ?_ ?_ (bcells_one _) ?_ ?_ ?_)))
          · rfl
          · rfl
          · exact Rd.byte rfl
          · omega
          · unfold maxLen; omega
          · intro v' w' ho' hx' hv' _
            have hx2 : Ext [] w w' := (hx.alloc _).trans hx' (fun z hz => .inr (hv z hz))
            have hv2 : ∀ z ∈ vblocks v', w.heap.size ≤ z := by
              intro z hz
              rcases hv' with h | h
              · rw [h] at hz; exact hv z hz
              · rw [h] at hz; simp at hz; omega
            have ho2 : OwnB w' v' (bs ++ List.replicate (k + 1) 0) := by
              rw [List.replicate_succ', ← List.append_assoc]
              unfold OwnB; rw [bcells_append, List.length_append]; exact ho'
            clear ho' hx' hv' ho hx hv hown
            go_wp2
            go_roundw
            case rel => exact ⟨k + 1, by omega, by go_num, ho2, hx2, hv2⟩
            case measure => simp [intOf]; omega
        · obtain rfl : k = 32 := by omega
          obtain ⟨B, hB⟩ : ∃ B, B = bs ++ List.replicate 32 0 := ⟨_, rfl⟩
          have hBl : B.length = bs.length + 32 := by rw [hB]; simp
          rw [← hB] at ho
          have HBB : Hid (B = bs ++ List.replicate 32 0) := hB
          have hown : Own wr 5 1 u3 (bs.length + 32) (bcells B) := by rw [← hBl]; exact ho
          obtain ⟨g, off, cap, hvv, hg⟩ : ∃ g off cap, u3 = .slice (some ⟨g, off, none⟩) (bs.length + 32) cap ∧ w.heap.size ≤ g := by
            rcases hown.2 with ⟨h', h0⟩ | ⟨g', off', cap', cur, fz, h', -⟩
            · omega
            · exact ⟨g', off', cap', h', hv g' (by rw [h']; simp [vblocks])⟩
          subst hvv
          clear ho hB hv
          have hF0 : flips B 0 = B := rfl
          rw [← hF0] at hown
          clear hF0
          go_wp2
          go_loopw [8] (fun i wr => ∃ k : Nat, k ≤ 32 ∧ i = .int .i64 k ∧ Own wr 5 1 (.slice (some ⟨g, off, none⟩) (bs.length + 32) cap) (bs.length + 32) (bcells (flips B k)) ∧ Ext [] w wr) (fun i _ => 32 - (intOf i).toNat)
          case atStart => exact ⟨0, by omega, rfl, hown, hx⟩
          case round =>
            clear hown hx
            obtain ⟨k, hk, rfl, ho, hx⟩ := hrel
            by_cases hlt4 : k < 32
            · have hfl := flips_length B k
              have hc0 := ho.cell k (by omega)
              have hf0 := ho.frozen k (by omega)
              have hst := ho.store k (.int .u8 ((((flips B k).getD k 0) ^^^ 1).toNat : Int)) (by omega)
              rw [bcells, List.getElem?_map, List.getElem?_eq_getElem (by omega), Option.map_some] at hc0
              have hgd : (flips B k).getD k 0 = (flips B k)[k]'(by omega) := by simp [List.getD, show k < (flips B k).length by omega]
              rw [← hgd] at hc0
              have hbs2 : (bcells (flips B k)).set k (.int .u8 ((((flips B k).getD k 0) ^^^ 1).toNat : Int)) = bcells (flips B (k + 1)) := by
                rw [flips, bcells, bcells, List.map_set]
              rw [hbs2] at hst
              obtain ⟨y, hy⟩ : ∃ x, x = (flips B k).getD k 0 := ⟨_, rfl⟩
              rw [← hy] at hc0 hst
              have hxt : bits .xor .u8 (y.toNat : Int) 1 = ((y ^^^ 1).toNat : Int) := b8_xor y 1
              have hxe := hx.setCell (p := ⟨g, off + k, none⟩) (.inr hg) (.int .u8 ((y ^^^ 1).toNat : Int))
              have hgl := ho.lt g (by simp [vblocks])
              clear hgd hbs2 hy ho hx hfl
              go_wp2
              go_roundw
              case rel => exact ⟨k + 1, by omega, by go_num, hst, hxe⟩
              case measure => simp [intOf]; omega
            · obtain rfl : k = 32 := by omega
              obtain ⟨F, hF⟩ : ∃ F, F = flips B 32 := ⟨_, rfl⟩
              have hFl : F.length = bs.length + 32 := by rw [hF, flips_length, hBl]
              rw [← hF] at ho
              have HF : Hid (F = flips B 32) := hF
              clear hF hBl
              have hR0 : rnds F 0 = F := rfl
              rw [← hR0] at ho
              clear hR0
              go_wp2
              go_loopw [10, 11] (fun i z wr => ∃ k : Nat, k ≤ bs.length ∧ i = .int .i64 k ∧ Own wr 5 1 (.slice (some ⟨g, off, none⟩) (bs.length + 32) cap) (bs.length + 32) (bcells (rnds F k)) ∧ Ext [] w wr) (fun i _ _ => bs.length - (intOf i).toNat)
              case atStart => exact ⟨0, by omega, rfl, ho, hx⟩
              case round =>
                clear ho hx
                obtain ⟨k, hk, rfl, ho, hx⟩ := hrel
                by_cases hlt5 : k < bs.length
                · have hrl := rnds_length F k
                  have HR1 : Hid (rnds F (k + 1) = rnd (rnds F k) k) := rfl
                  obtain ⟨R, hR⟩ : ∃ R, R = rnds F k := ⟨_, rfl⟩
                  rw [← hR] at ho hrl HR1
                  clear hR
                  have hRl : R.length = bs.length + 32 := by omega
                  have hc0 := ho.cell k (by omega)
                  rw [bcells, List.getElem?_map, List.getElem?_eq_getElem (by omega), Option.map_some] at hc0
                  have hgd : R.getD k 0 = R[k]'(by omega) := by simp [List.getD, show k < R.length by omega]
                  rw [← hgd] at hc0
                  have HR2 : Hid (rnds F (k + 1) = if R.getD k 0 = 1 then xorp R k 33 else R) := HR1
                  obtain ⟨y, hy⟩ : ∃ x, x = R.getD k 0 := ⟨_, rfl⟩
                  rw [← hy] at hc0 HR2
                  have hgl := ho.lt g (by simp [vblocks])
                  clear hgd hy HR1 hrl
                  by_cases hy1 : y = 1
                  · subst hy1
                    have HR3 : Hid (rnds F (k + 1) = xorp R k 33) := by show _ = _; rw [HR2.out, if_pos rfl]
                    clear HR2
                    have hX0 : xorp R k 0 = R := rfl
                    rw [← hX0] at ho
                    clear hX0
                    have hc1 : wr.cell? ⟨g, off + k, none⟩ = some (.int .u8 1) := hc0
                    clear hc0
                    go_wp2
                    go_loopw [11] (fun z wr => ∃ j : Nat, j ≤ 33 ∧ z = .int .i64 j ∧ Own wr 5 1 (.slice (some ⟨g, off, none⟩) (bs.length + 32) cap) (bs.length + 32) (bcells (xorp R k j)) ∧ Ext [] w wr) (fun z _ => 33 - (intOf z).toNat)
                    case atStart => exact ⟨0, by omega, rfl, ho, hx⟩
                    case round =>
                      clear ho hx hc1 hgl
                      obtain ⟨j, hj, rfl, ho, hx⟩ := hrel
                      by_cases hlt6 : j < 33
                      · have hfl := xorp_length R k j
                        have hc0 := ho.cell (k + j) (by omega)
                        have hf0 := ho.frozen (k + j) (by omega)
                        have hst := ho.store (k + j) (.int .u8 ((((xorp R k j).getD (k + j) 0) ^^^ pbit j).toNat : Int)) (by omega)
                        rw [bcells, List.getElem?_map, List.getElem?_eq_getElem (by omega), Option.map_some] at hc0
                        have hgd : (xorp R k j).getD (k + j) 0 = (xorp R k j)[k + j]'(by omega) := by simp [List.getD, show k + j < (xorp R k j).length by omega]
                        rw [← hgd] at hc0
                        have hbs2 : (bcells (xorp R k j)).set (k + j) (.int .u8 ((((xorp R k j).getD (k + j) 0) ^^^ pbit j).toNat : Int)) = bcells (xorp R k (j + 1)) := by
                          rw [xorp, bcells, bcells, List.map_set]
                        rw [hbs2] at hst
                        obtain ⟨y, hy⟩ : ∃ x, x = (xorp R k j).getD (k + j) 0 := ⟨_, rfl⟩
                        rw [← hy] at hc0 hst
                        have hxe := hx.setCell (p := ⟨g, off + (k + j), none⟩) (.inr hg) (.int .u8 ((y ^^^ pbit j).toNat : Int))
                        have hgl := ho.lt g (by simp [vblocks])
                        have hp1 := pbit_val j hlt6
                        have hxt := b8_xor y (pbit j)
                        clear hgd hbs2 hy ho hx hfl
                        go_wp2
                        go_roundw
                        case rel => exact ⟨j + 1, by omega, by go_num, hst, hxe⟩
                        case measure => simp [intOf]; omega
                      · obtain rfl : j = 33 := by omega
                        rw [← HR3.out] at ho
                        go_wp2
                        go_roundw
                        case rel => exact ⟨k + 1, by omega, by go_num, ho, hx⟩
                        case measure => simp [intOf]; omega
                  · have HR3 : Hid (rnds F (k + 1) = R) := by show _ = _; rw [HR2.out, if_neg hy1]
                    rw [← HR3.out] at ho
                    have hy2 : ¬ (y.toNat : Int) = 1 := by
                      intro h
                      apply hy1
                      apply UInt8.toNat_inj.1
                      have : (1 : UInt8).toNat = 1 := rfl
                      omega
                    clear hy1 HR2
                    go_wp2
                    go_roundw
                    case rel => exact ⟨k + 1, by omega, by go_num, ho, hx⟩
                    case measure => simp [intOf]; omega
                · have hkN : k = bs.length := by omega
                  rw [hkN] at ho
                  obtain ⟨R, hR⟩ : ∃ R, R = rnds F bs.length := ⟨_, rfl⟩
                  have hRl : R.length = bs.length + 32 := by rw [hR, rnds_length, hFl]
                  rw [← hR] at ho
                  have HL : Hid (fin32 R bs.length 32 = longS l) := by
                    show _ = _
                    rw [hR, HF.out, HBB.out, HBS.out, ← HBS.out, HBL.out, HBS.out]; rfl
                  have hkN1 : bs.length ≤ k := by omega
                  have hkN2 : k ≤ bs.length := by omega
                  clear hkN hR HF HBB HBS HBL hFl
                  go_wp2
                  go_loopw [12, 13] (fun x i wr => ∃ j : Nat, j ≤ 32 ∧ i = .int .i64 j ∧ x = .int .u32 (u32v (fin32 R bs.length j)) ∧ Own wr 5 1 (.slice (some ⟨g, off, none⟩) (bs.length + 32) cap) (bs.length + 32) (bcells R) ∧ Ext [] w wr) (fun _ i _ => 32 - (intOf i).toNat)
                  case atStart => exact ⟨0, by omega, rfl, rfl, ho, hx⟩
                  case round =>
                    clear ho hx
                    obtain ⟨j, hj, rfl, rfl, ho, hx⟩ := hrel
                    by_cases hlt7 : j < 32
                    · have HF1 : Hid (fin32 R bs.length (j + 1) = fin32 R bs.length j ||| (BitVec.ofNat 32 ((R.getD (bs.length + j) 0 ^^^ 1).toNat) <<< j)) := rfl
                      have hc0 := ho.cell (bs.length + j) (by omega)
                      rw [bcells, List.getElem?_map, List.getElem?_eq_getElem (by omega), Option.map_some] at hc0
                      have hgd : R.getD (bs.length + j) 0 = R[bs.length + j]'(by omega) := by simp [List.getD, show bs.length + j < R.length by omega]
                      rw [← hgd] at hc0
                      obtain ⟨y, hy⟩ : ∃ x, x = R.getD (bs.length + j) 0 := ⟨_, rfl⟩
                      rw [← hy] at hc0 HF1
                      obtain ⟨x, hxx⟩ : ∃ x, x = fin32 R bs.length j := ⟨_, rfl⟩
                      rw [← hxx] at HF1
                      simp only [← hxx]
                      have hxt : bits .xor .u8 (y.toNat : Int) 1 = ((y ^^^ 1).toNat : Int) := b8_xor y 1
                      have hgl := ho.lt g (by simp [vblocks])
                      obtain ⟨z, hz⟩ : ∃ z, z = y ^^^ 1 := ⟨_, rfl⟩
                      rw [← hz] at hxt HF1
                      have hor := b32_or x (BitVec.ofNat 32 z.toNat <<< j)
                      rw [← shl_val, ← HF1.out] at hor
                      have HOR : Hid (bits .or .u32 (u32v x) ((z.toNat : Int) % 4294967296 * 2 ^ j % 4294967296) = u32v (fin32 R bs.length (j + 1))) := hor
                      clear hgd hy hxx hz hor HF1
                      go_wp2
                      go_roundw
                      case rel => exact ⟨j + 1, by omega, by go_num, by first | rw [HOR.out] | (simp only [Value.int.injEq, true_and]; rw [← HOR.out]; try rfl), ho, hx⟩
                      case measure => simp [intOf]; omega
                    · obtain rfl : j = 32 := by omega
                      rw [HL.out]
                      clear HL ho
                      go_wp2
                      go_ret
                      exact ⟨rfl, hx⟩
set_option maxHeartbeats 3200000 in
theorem sumLong_any (l : List UInt8) (_ : l.length ≤ maxLen) (w : World) : Calls Try.prog 4 #[str l] w fun e w' => e = .returned (.bool true) ∧ Ext [] w w' := by
  by_cases h : 200 < l.length
  · go_enter Try.func4, Try.ntmps4
    go_wp2_with fail
    refine (head2_any w).mono ?_
    rintro e w1 ⟨rfl, hx⟩
    go_wp2
    go_ret
    exact ⟨rfl, hx⟩
  · have hl : l.length ≤ 200 := by omega
    have hs := longS_eq l
    have cO : ∀ W g, Rd W 1 (.slice (some g) 1 1) 1 ([l].map str) → Calls Try.prog 19 #[.slice (some g) 1 1] W fun e w' => e = .returned (.int .u32 (u32v (longS l))) ∧ Ext [] W w' := fun W g hr => by
      have := of_any _ 1 1 [l] W (by omega) (by intro t ht; simp at ht; subst ht; unfold maxLen; omega) hr
      rwa [List.flatten_singleton, ← hs] at this
    have cL := fun W => long_any l hl W
    obtain ⟨x, hx⟩ : ∃ x, x = longS l := ⟨_, rfl⟩
    rw [← hx] at cO cL
    clear hs hx
    go_enter Try.func4, Try.ntmps4
    go_wp2_with fail
    refine (head2_any w).mono ?_
    rintro e w1 ⟨rfl, hx⟩
    go_wp2_with fail
    refine (cO _ _ (Rd.strs1 l rfl)).mono ?_
    rintro e w2 ⟨rfl, hx2⟩
    go_wp2_with fail
    refine (cL _).mono ?_
    rintro e w3 ⟨rfl, hx3⟩
    have hz : Ext [] w w3 := ((hx.alloc _).then0 hx2).then0 hx3
    clear hx hx2 hx3
    go_wp2
    go_ret
    exact ⟨rfl, hz⟩
end Go.Proofs.Ytoeccimbechfeaa
