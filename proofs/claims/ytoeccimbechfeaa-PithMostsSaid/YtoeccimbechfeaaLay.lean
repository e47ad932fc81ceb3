/- lay: parts as bytes. -/
import Derived.Test.YtoeccimbechfeaaLaw1
namespace Go.Proofs.Ytoeccimbechfeaa
open Go.RowKit
set_option linter.unusedVariables false
attribute [local go_sem high] run_max2 run_min2
attribute [local go_sem] i64_and1 i64_and255 i64_and65535

def layP (p : Part) : List UInt8 :=
  if kindZ p.k = 0 then encNum p.n else if kindZ p.k = 1 then be2 p.s.length ++ p.s else [UInt8.ofNat (p.n % 2).toNat]
def layAll (ps : List Part) : List UInt8 := ps.flatMap layP
theorem layP_le (p : Part) (h : p.s.length ≤ 65535) : (layP p).length ≤ 65537 := by
  unfold layP
  split
  · rw [encNum_length]; omega
  · split
    · simp [be2]; omega
    · simp
theorem layAll_le (ps : List Part) (h : ∀ p ∈ ps, p.s.length ≤ 65535) : (layAll ps).length ≤ 65537 * ps.length := by
  induction ps with
  | nil => simp [layAll]
  | cons p ps ih =>
    have h1 := layP_le p (h p (by simp))
    have h2 := ih (fun q hq => h q (by simp [hq]))
    simp only [layAll, List.flatMap_cons, List.length_append, List.length_cons] at *
    omega
theorem layAll_append (a b : List Part) : layAll (a ++ b) = layAll a ++ layAll b := by simp [layAll]
theorem layAll_one (p : Part) : layAll [p] = layP p := by simp [layAll]
theorem be6_drop (x j : Nat) (h : j < 6) : (be6 x).drop (6 - (j + 1)) = UInt8.ofNat (x / 256 ^ j) :: (be6 x).drop (6 - j) := by
  rw [be6_eq]
  have h2 : j = 0 ∨ j = 1 ∨ j = 2 ∨ j = 3 ∨ j = 4 ∨ j = 5 := by omega
  rcases h2 with rfl | rfl | rfl | rfl | rfl | rfl <;> rfl
theorem str_app (x y : List UInt8) : Value.string ((⟨x.toArray⟩ : ByteArray) ++ ⟨y.toArray⟩) = str (x ++ y) := by rw [ByteArray.mk_append_mk]
theorem str_app3 (x y z : List UInt8) : Value.string ((⟨x.toArray⟩ : ByteArray) ++ ⟨y.toArray⟩ ++ ⟨z.toArray⟩) = str (x ++ (y ++ z)) := by rw [ByteArray.mk_append_mk, ByteArray.mk_append_mk, List.append_assoc]
theorem pcells_len (p : Part) : p.cells.length = 3 := rfl

set_option maxHeartbeats 1600000 in
theorem lay_any {w : World} (a : Option Addr) (len cap : Nat) (ps : List Part) (hR : Rd w 3 (.slice a len cap) len (ps.flatMap Part.cells)) (hlen : len ≤ 40) (hps : ∀ p ∈ ps, p.s.length ≤ 65535) :
    Calls Try.prog 26 #[.slice a len cap] w fun e w' => e = .returned (str (layAll ps)) ∧ Ext [] w w' := by
  have hl : ps.length = len := by have := hR.len.2.2.2; rw [flatMap_len _ 3 pcells_len] at this; omega
  go_enter Try.func26, Try.ntmps26
  go_wp2
  go_loopw [3, 11] (fun o i wr => ∃ k : Nat, k ≤ len ∧ i = .int .i64 k ∧ o = str (layAll (ps.take k)) ∧ Ext [] w wr) (fun _ i _ => len - (intOf i).toNat)
  case atStart => exact ⟨0, by omega, rfl, rfl, Ext.refl _ _⟩
  case round =>
    obtain ⟨k, hk, rfl, rfl, hx⟩ := hrel
    by_cases hlt : k < len
    · obtain ⟨b, off, rfl, hbw, hc⟩ := hR.view (by omega)
      have htk : Hid (layAll (ps.take (k + 1)) = layAll (ps.take k) ++ layP ps[k]) := by
        show _ = _
        rw [List.take_succ_eq_append_getElem (by omega), layAll_append, layAll_one]
      have hol : (layAll (ps.take k)).length ≤ 2700000 := by
        have := layAll_le (ps.take k) (fun p hp => hps p (List.mem_of_mem_take hp))
        rw [List.length_take] at this
        have : min k ps.length ≤ 40 := by omega
        omega
      have hsl : ps[k].s.length ≤ 65535 := hps _ (List.getElem_mem _)
      have c0 := hx.cell (p := ⟨b, off + k * 3, none⟩) (by simp) (hc (k * 3 + 0) (.int .i64 ps[k].k) (by rw [flatMap_get _ 3 pcells_len _ k 0 (by omega) (by omega)]; rfl))
      have c1 := hx.cell (p := ⟨b, off + (k * 3 + 1), none⟩) (by simp) (hc (k * 3 + 1) (.int .i64 ps[k].n) (by rw [flatMap_get _ 3 pcells_len _ k 1 (by omega) (by omega)]; rfl))
      have c2 := hx.cell (p := ⟨b, off + (k * 3 + 2), none⟩) (by simp) (hc (k * 3 + 2) (str ps[k].s) (by rw [flatMap_get _ 3 pcells_len _ k 2 (by omega) (by omega)]; rfl))
      obtain ⟨p, hp⟩ : ∃ p, p = ps[k] := ⟨_, rfl⟩
      rw [← hp] at c0 c1 c2 htk hsl
      obtain ⟨o, ho⟩ : ∃ o, o = layAll (ps.take k) := ⟨_, rfl⟩
      rw [← ho] at htk hol ⊢
      clear hp ho hc hR hl hps
      obtain ⟨pk, pn, psx⟩ := p
      simp only at c0 c1 c2 hsl
      rw [← Nat.add_assoc] at c1 c2
      go_wp2_with fail
      refine (kind_any pk pn psx _).mono ?_
      rintro e w1 ⟨rfl, hx1⟩
      have q0 : Blk w1 wr.heap.size 38 [.int .i64 pk, .int .i64 pn, str psx] := (Blk.new wr _ #[.int .i64 pk, .int .i64 pn, str psx]).keep hx1 (by simp)
      have hx2 : Ext [] w w1 := (hx.alloc _).then0 hx1
      have d1 := q0.c 1
      have d2 := q0.c 2
      simp only [List.getElem?_cons_zero, List.getElem?_cons_succ] at d1 d2
      have hq := q0.lt
      obtain ⟨q, hqq⟩ : ∃ q, q = wr.heap.size := ⟨_, rfl⟩
      rw [← hqq] at d1 d2 hq ⊢
      clear c0 c1 c2 q0 hx hx1 hqq
      by_cases hk0 : kindZ pk = 0
      · have HR : Hid (layP ⟨pk, pn, psx⟩ = be6 (clamp pn)) := if_pos hk0
        rw [hk0]
        have hcl := clamp_le pn
        have hcc := clamp_cast pn
        obtain ⟨x, hxx⟩ : ∃ x, x = clamp pn := ⟨_, rfl⟩
        rw [← hxx] at HR hcl hcc
        have HC : Hid ((x : Int) = min (max pn 0) 281474976710655) := hcc
        clear hxx hk0 d2 hcc
        go_wp2
        rw [← HC.out]
        go_loopw [6, 7, 8] (fun n s i wr => ∃ j : Nat, j ≤ 6 ∧ i = .int .i64 j ∧ n = .int .i64 ((x / 256 ^ j : Nat) : Int) ∧ s = str ((be6 x).drop (6 - j)) ∧ Ext [] w wr) (fun _ _ i _ => 6 - (intOf i).toNat)
        case atStart => exact ⟨0, by omega, rfl, by simp, rfl, hx2⟩
        case round =>
          clear hx2 d1 hq
          obtain ⟨j, hj, rfl, rfl, rfl, hxj⟩ := hrel
          by_cases hj6 : j < 6
          · have HD : Hid (str ((be6 x).drop (6 - (j + 1))) = str (UInt8.ofNat (x / 256 ^ j) :: (be6 x).drop (6 - j))) := by show _ = _; rw [be6_drop x j hj6]
            have hy : x / 256 ^ j ≤ 281474976710655 := Nat.le_trans (Nat.div_le_self _ _) hcl
            have HY : Hid (x / 256 ^ (j + 1) = x / 256 ^ j / 256) := by show _ = _; rw [Nat.pow_succ, Nat.div_div_eq_div_mul]
            have hdl : ((be6 x).drop (6 - j)).length ≤ 6 := by rw [List.length_drop, be6_length]; omega
            obtain ⟨y, hyy⟩ : ∃ y, y = x / 256 ^ j := ⟨_, rfl⟩
            obtain ⟨d, hdd⟩ : ∃ d, d = (be6 x).drop (6 - j) := ⟨_, rfl⟩
            rw [← hyy] at hy HY HD ⊢
            rw [← hdd] at HD hdl ⊢
            have hs := run_str1n wr ((y : Int) % 256) (UInt8.ofNat y) (by rw [ofNat_toNat_int])
            clear hyy hdd
            go_wp2
            go_roundw
            case rel => exact ⟨j + 1, by omega, by go_num, by rw [HY.out]; go_num, by rw [HD.out]; exact str_app _ _, hxj.alloc _⟩
            case measure => simp [intOf]; omega
          · have hj7 : j = 6 := by omega
            subst hj7
            have h6 : (be6 x).length = 6 := be6_length x
            clear hj6 hj
            go_wp2
            go_roundw
            case rel => exact ⟨k + 1, by omega, by go_num, by rw [htk.out, HR.out]; exact str_app _ _, hxj⟩
            case measure => simp [intOf]; omega
      · have hk0' : (kindZ pk == 0) = false := by simp [hk0]
        by_cases hk1 : kindZ pk = 1
        · have HR : Hid (layP ⟨pk, pn, psx⟩ = be2 psx.length ++ psx) := by show _ = _; rw [layP, if_neg hk0, if_pos hk1]
          clear hk0 hk0'
          rw [hk1]
          have hs := run_str2n w1 ((psx.length : Int) / 256) ((psx.length : Int) % 256) (UInt8.ofNat (psx.length / 256)) (UInt8.ofNat psx.length) (by rw [ofNat_toNat_int]; omega) (by rw [ofNat_toNat_int])
          clear hk1 d1
          go_wp2
          go_roundw
          case rel => exact ⟨k + 1, by omega, by go_num, by rw [htk.out, HR.out]; exact str_app3 _ _ _, hx2.alloc _⟩
          case measure => simp [intOf]; omega
        · have hk1' : (kindZ pk == 1) = false := by simp [hk1]
          have HR : Hid (layP ⟨pk, pn, psx⟩ = [UInt8.ofNat (pn % 2).toNat]) := by show _ = _; rw [layP, if_neg hk0, if_neg hk1]
          have hs := run_str1n w1 (pn % 2) (UInt8.ofNat (pn % 2).toNat) (by rw [ofNat_toNat_int]; omega)
          have h2 : 0 ≤ pn % 2 ∧ pn % 2 ≤ 1 := by omega
          clear hk0 hk1 d2
          go_wp2
          go_roundw
          case rel => exact ⟨k + 1, by omega, by go_num, by rw [htk.out, HR.out]; exact str_app _ _, hx2.alloc _⟩
          case measure => simp [intOf]; omega
    · have hkl : k = len := by omega
      subst hkl
      rw [List.take_of_length_le (by omega)]
      go_wp2
      go_ret
      exact ⟨rfl, hx⟩
end Go.Proofs.Ytoeccimbechfeaa
