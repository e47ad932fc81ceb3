/- PithLays: the walk. -/
import Derived.Test.YtoeccimbechfeaaLayLaw
import Derived.Test.YtoeccimbechfeaaParts
import Derived.Test.YtoeccimbechfeaaHeld
namespace Go.Proofs.Ytoeccimbechfeaa
open Go.RowKit
set_option linter.unusedVariables false
attribute [local go_sem high] run_max2 run_min2
attribute [local go_sem] i64_and1 i64_and255 i64_and65535

theorem encText_short (s : List UInt8) (h : s.length ≤ 65535) : encText s = be2 s.length ++ s := by
  have : cut16 s = s := List.take_of_length_le h
  rw [encText, this]
theorem encFlag_num (n : Int) : encFlag (n % 2 == 1) = [UInt8.ofNat (n % 2).toNat] := by
  have h2 : n % 2 = 0 ∨ n % 2 = 1 := by omega
  rcases h2 with h | h <;> rw [h] <;> rfl
theorem Rd.strs1' {w : World} {e : TypeId} {g : Nat} (s : List UInt8) (hg : w.heap.size = g := by simp) : Rd (w.alloc (.cells #[str s] e)) 1 (.slice (some ⟨g, 0, none⟩) 1 1) 1 ([s].map str) :=
  Rd.litg #[str s] e 1 1 rfl (by unfold maxLen; omega) hg
theorem Rd.bools1 {w : World} {e : TypeId} {g : Nat} (b : Bool) (hg : w.heap.size = g := by simp) : Rd (w.alloc (.cells #[.bool b] e)) 1 (.slice (some ⟨g, 0, none⟩) 1 1) 1 ([b].map Value.bool) :=
  Rd.litg #[.bool b] e 1 1 rfl (by unfold maxLen; omega) hg

set_option maxHeartbeats 1600000 in
theorem lays_any {w0 : World} (a : Option Addr) (len cap : Nat) (ps : List Part) (hR : Rd w0 3 (.slice a len cap) len (ps.flatMap Part.cells)) (_ : ∀ p ∈ ps, WfPart p) :
    Calls Try.prog 15 #[.slice a len cap] w0 fun e w' => e = .returned (.bool true) ∧ Ext [] w0 w' := by
  by_cases h20 : 20 < len
  · go_enter Try.func15, Try.ntmps15
    go_wp2_with fail
    refine (head1_any _).mono ?_
    rintro e w1 ⟨rfl, hx⟩
    go_wp2
    go_ret
    exact ⟨rfl, hx⟩
  have hl : ps.length = len := by have := hR.len.2.2.2; rw [flatMap_len _ 3 pcells_len] at this; omega
  go_enter Try.func15, Try.ntmps15
  go_wp2_with fail
  refine (head1_any _).mono ?_
  rintro e w1 ⟨rfl, hx⟩
  have hg : w0.heap.size ≤ w1.heap.size := hx.size
  go_wp2
  go_loopw [3, 18] (fun v i wr => ∃ k : Nat, k ≤ len ∧ i = .int .i64 k ∧ (∀ p ∈ ps.take k, p.s.length ≤ 300) ∧ OwnB wr v (layAll (ps.take k)) ∧ (∀ x ∈ vblocks v, w0.heap.size ≤ x) ∧ Ext [] w0 wr) (fun _ i _ => len - (intOf i).toNat)
  case atStart => exact ⟨0, by omega, rfl, by simp, Own.lit _ #[] _ 1 0 rfl (by omega), by simp [vblocks]; omega, hx.alloc _⟩
  case round =>
    clear hx hg
    obtain ⟨k, hk, rfl, hall, ho, hv, hxr⟩ := hrel
    by_cases hlt : k < len
    · obtain ⟨b, off, rfl, hbw, hc⟩ := hR.view (by omega)
      have c0 := hxr.cell (p := ⟨b, off + k * 3, none⟩) (by simp) (hc (k * 3 + 0) (.int .i64 ps[k].k) (by rw [flatMap_get _ 3 pcells_len _ k 0 (by omega) (by omega)]; rfl))
      have c1 := hxr.cell (p := ⟨b, off + (k * 3 + 1), none⟩) (by simp) (hc (k * 3 + 1) (.int .i64 ps[k].n) (by rw [flatMap_get _ 3 pcells_len _ k 1 (by omega) (by omega)]; rfl))
      have c2 := hxr.cell (p := ⟨b, off + (k * 3 + 2), none⟩) (by simp) (hc (k * 3 + 2) (str ps[k].s) (by rw [flatMap_get _ 3 pcells_len _ k 2 (by omega) (by omega)]; rfl))
      have hall' : ps[k].s.length ≤ 300 → Hid (∀ p ∈ ps.take (k + 1), p.s.length ≤ 300) := by
        intro h p hp
        rw [List.take_succ_eq_append_getElem (by omega), List.mem_append] at hp
        rcases hp with hp | hp
        · exact hall p hp
        · simp at hp; rw [hp]; exact h
      have htk : Hid (layAll (ps.take (k + 1)) = layAll (ps.take k) ++ layP ps[k]) := by
        show _ = _
        rw [List.take_succ_eq_append_getElem (by omega), layAll_append, layAll_one]
      have hol : (layAll (ps.take k)).length ≤ 2700000 := by
        have := layAll_le (ps.take k) (fun p hp => by have := hall p hp; omega)
        rw [List.length_take] at this
        have : min k ps.length ≤ 40 := by omega
        omega
      obtain ⟨p, hp⟩ : ∃ p, p = ps[k] := ⟨_, rfl⟩
      obtain ⟨o, hoo⟩ : ∃ o, o = layAll (ps.take k) := ⟨_, rfl⟩
      rw [← hp] at c0 c1 c2 hall' htk
      rw [← hoo] at htk hol ho
      clear hp hoo hc hR hl hall
      obtain ⟨pk, pn, psx⟩ := p
      simp only at c0 c1 c2 hall'
      rw [← Nat.add_assoc] at c1 c2
      by_cases h300 : 300 < psx.length
      · clear hall'
        have hx2 := hxr.alloc (.cells #[.int .i64 pk, .int .i64 pn, str psx] 38)
        go_wp2
        go_ret
        exact ⟨rfl, hx2⟩
      · have hall2 := hall' (by omega)
        clear hall'
        go_wp2_with fail
        refine (kind_any pk pn psx _).mono ?_
        rintro e w2 ⟨rfl, hx2⟩
        have hx3 : Ext [] w0 w2 := (hxr.alloc _).then0 hx2
        have q0 : Blk w2 wr.heap.size 38 [.int .i64 pk, .int .i64 pn, str psx] := (Blk.new wr _ #[.int .i64 pk, .int .i64 pn, str psx]).keep hx2 (by simp)
        have ho2 := ho.keep (((Ext.refl [] wr).alloc _).then0 hx2) (by simp)
        have d1 := q0.c 1
        have d2 := q0.c 2
        simp only [List.getElem?_cons_zero, List.getElem?_cons_succ] at d1 d2
        have hq := q0.lt
        obtain ⟨q, hqq⟩ : ∃ q, q = wr.heap.size := ⟨_, rfl⟩
        rw [← hqq] at d1 d2 hq ⊢
        have hlt2 := ho2.lt
        clear c0 c1 c2 q0 hxr ho hx2 hqq
        by_cases hk0 : kindZ pk = 0
        · have HR : Hid (layP ⟨pk, pn, psx⟩ = encNum pn) := if_pos hk0
          rw [hk0]
          go_wp2_with fail
          refine (num_any _ o _ 1 1 [pn] _ (by omega) (by omega) (ho2.keep ((Ext.refl [] w2).alloc _) (by simp)) (Rd.ints1 pn) (by intro x hx hx2; simp [vblocks] at hx; have := hlt2 x hx2; omega)).mono ?_
          rintro e w3 ⟨v', rfl, ho3, hx4, hv'⟩
          have hx5 : Ext [] w0 w3 := (hx3.alloc _).trans hx4 (fun x hx => .inr (hv x hx))
          have hv3 : ∀ x ∈ vblocks v', w0.heap.size ≤ x := fun x hx => by
            rcases hv' x hx with h | h
            · exact hv x h
            · have := hx3.size; simp at h; omega
          clear hx3 hx4 ho2 hv' hlt2 d1 d2
          go_wp2
          go_roundw
          case rel => exact ⟨k + 1, by omega, by go_num, hall2.out, by rw [htk.out, HR.out, ← encNums_one]; exact ho3, hv3, hx5⟩
          case measure => simp [intOf]; omega
        · have hk0' : (kindZ pk == 0) = false := by simp [hk0]
          by_cases hk1 : kindZ pk = 1
          · have HR : Hid (layP ⟨pk, pn, psx⟩ = encText psx) := by show _ = _; rw [layP, if_neg hk0, if_pos hk1, encText_short _ (by omega)]
            clear hk0 hk0'
            rw [hk1]
            go_wp2_with fail
            refine (text_any _ o _ 1 1 [psx] _ (by omega) (by omega) (ho2.keep ((Ext.refl [] w2).alloc _) (by simp)) (Rd.strs1' psx) (by intro x hx hx2; simp [vblocks] at hx; have := hlt2 x hx2; omega)).mono ?_
            rintro e w3 ⟨v', rfl, ho3, hx4, hv'⟩
            have hx5 : Ext [] w0 w3 := (hx3.alloc _).trans hx4 (fun x hx => .inr (hv x hx))
            have hv3 : ∀ x ∈ vblocks v', w0.heap.size ≤ x := fun x hx => by
              rcases hv' x hx with h | h
              · exact hv x h
              · have := hx3.size; simp at h; omega
            clear hx3 hx4 ho2 hv' hlt2 d1 d2
            go_wp2
            go_roundw
            case rel => exact ⟨k + 1, by omega, by go_num, hall2.out, by rw [htk.out, HR.out, ← encTexts_one]; exact ho3, hv3, hx5⟩
            case measure => simp [intOf]; omega
          · have hk1' : (kindZ pk == 1) = false := by simp [hk1]
            have HR : Hid (layP ⟨pk, pn, psx⟩ = encFlag (pn % 2 == 1)) := by show _ = _; rw [layP, if_neg hk0, if_neg hk1, encFlag_num]
            clear hk0 hk1
            go_wp2_with fail
            refine (flag_any _ o _ 1 1 [pn % 2 == 1] _ (by omega) (by omega) (ho2.keep ((Ext.refl [] w2).alloc _) (by simp)) (Rd.bools1 (pn % 2 == 1)) (by intro x hx hx2; simp [vblocks] at hx; have := hlt2 x hx2; omega)).mono ?_
            rintro e w3 ⟨v', rfl, ho3, hx4, hv'⟩
            have hx5 : Ext [] w0 w3 := (hx3.alloc _).trans hx4 (fun x hx => .inr (hv x hx))
            have hv3 : ∀ x ∈ vblocks v', w0.heap.size ≤ x := fun x hx => by
              rcases hv' x hx with h | h
              · exact hv x h
              · have := hx3.size; simp at h; omega
            clear hx3 hx4 ho2 hv' hlt2 d1 d2
            go_wp2
            go_roundw
            case rel => exact ⟨k + 1, by omega, by go_num, hall2.out, by rw [htk.out, HR.out, ← encFlags_one]; exact ho3, hv3, hx5⟩
            case measure => simp [intOf]; omega
    · have hkl : k = len := by omega
      subst hkl
      rw [List.take_of_length_le (by omega)] at hall ho
      have hP : ∀ w', Ext [] wr w' → (Ext [] wr w' ∧ (convert 23 9 u3).run Try.prog w' = .ok (str (layAll ps)) w') := fun w' h => ⟨h, (ho.keep h (by simp)).str⟩
      have hE : Ext [] wr wr := Ext.refl _ _
      go_wp2_with fail
      go_region_held3 (fun w' => Ext [] wr w' ∧ (convert 23 9 u3).run Try.prog w' = .ok (str (layAll ps)) w') (first | exact hP _ (by assumption) | (go_split_ands; apply hP; (repeat' (first | assumption | exact Ext.refl _ _ | apply Ext.drew | (refine Ext.alloc ?_ _) | (refine Ext.setCell ?_ (by first | (right; simp; done) | (right; have := hx.size; simp at this ⊢; omega) | (left; simp; done)) _) | (refine Ext.then0 ?_ hx) | (refine Ext.trans ?_ hx (by simp)))); done))
        (first | (go_at_call 26; go_split_ands; refine (lay_any a k cap ps (hR.keep (hxr.then0 (by assumption)) (by simp)) (by omega) (fun p hp => by have := hall p hp; omega)).mono ?_; rintro e w5 ⟨rfl, hx⟩))
      have hx5 : Ext [] w0 w5 := by go_split_ands; exact hxr.then0 (by assumption)
      have hlall := layAll_le ps (fun p hp => by have := hall p hp; omega)
      have hr5 : Ext [] wr w5 := by go_split_ands; assumption
      have hb5 := (ho.keep hr5 (by simp)).str
      clear hx hr5 hP hE ho hv hxr
      go_wp2_with fail
      refine (read_any (layAll ps) w5).mono ?_
      rintro e w6 ⟨rfl, h6, hx6⟩
      have hx7 : Ext [] w0 w6 := hx5.then0 hx6
      have hg : w0.heap.size ≤ w5.heap.size := hx5.size
      obtain ⟨g, hgg⟩ : ∃ g, g = w5.heap.size := ⟨_, rfl⟩
      rw [← hgg] at h6 hg ⊢
      clear hgg hx6 hx5 hb5
      go_wp2
      go_loopw [60] (fun i wr => Hid (∃ k' : Nat, k' ≤ k ∧ i = .int .i64 k' ∧ IsR wr g (layAll (ps.drop k'), false) ∧ Ext [] w0 wr)) (fun i _ => k - (intOf i).toNat)
      case atStart => exact ⟨0, by omega, rfl, h6, hx7⟩
      case round =>
        clear h6 hx7
        obtain ⟨j, hj, rfl, hr, hxr⟩ := hrel.out
        by_cases hjk : j < k
        · obtain ⟨b, off, rfl, hbw, hc⟩ := hR.view (by omega)
          have c0 := hxr.cell (p := ⟨b, off + j * 3, none⟩) (by simp) (hc (j * 3 + 0) (.int .i64 ps[j].k) (by rw [flatMap_get _ 3 pcells_len _ j 0 (by omega) (by omega)]; rfl))
          have c1 := hxr.cell (p := ⟨b, off + (j * 3 + 1), none⟩) (by simp) (hc (j * 3 + 1) (.int .i64 ps[j].n) (by rw [flatMap_get _ 3 pcells_len _ j 1 (by omega) (by omega)]; rfl))
          have c2 := hxr.cell (p := ⟨b, off + (j * 3 + 2), none⟩) (by simp) (hc (j * 3 + 2) (str ps[j].s) (by rw [flatMap_get _ 3 pcells_len _ j 2 (by omega) (by omega)]; rfl))
          have hsl := hall ps[j] (List.getElem_mem _)
          have hdr : layAll (ps.drop j) = layP ps[j] ++ layAll (ps.drop (j + 1)) := by rw [List.drop_eq_getElem_cons (by omega), layAll_cons]
          rw [hdr] at hr
          have hll : (layP ps[j] ++ layAll (ps.drop (j + 1))).length ≤ 2700000 := by
            rw [← hdr]
            have := layAll_le (ps.drop j) (fun p hp => by have := hall p (List.mem_of_mem_drop hp); omega)
            rw [List.length_drop] at this
            omega
          obtain ⟨p, hp⟩ : ∃ p, p = ps[j] := ⟨_, rfl⟩
          rw [← hp] at c0 c1 c2 hsl hr hll
          obtain ⟨rest, hre⟩ : ∃ rest, rest = layAll (ps.drop (j + 1)) := ⟨_, rfl⟩
          rw [← hre] at hr hll
          have HRE : Hid (layAll (ps.drop (j + 1)) = rest) := hre.symm
          clear hp hc hR hl hall hdr hre hlall
          have hread : ∀ w, IsR w g (layP p ++ rest, false) → Calls Try.prog 30 #[.pointer (some ⟨g, 0, none⟩), .agg #[.int .i64 p.k, .int .i64 p.n, str p.s]] w fun e w' => e = .returned (normP p).v ∧ IsR w' g (rest, false) ∧ Ext [g] w w' := by
            intro w h
            have := readP_any g p.k p.n p.s _ w h (by simp only; omega)
            rw [readP_lay p rest (by omega)] at this
            exact this
          obtain ⟨pk, pn, psx⟩ := p
          simp only at c0 c1 c2 hsl hread
          rw [← Nat.add_assoc] at c1 c2
          have b0 : Blk (wr.alloc (.cells #[.int .i64 pk, .int .i64 pn, str psx] 38)) wr.heap.size 38 [.int .i64 pk, .int .i64 pn, str psx] := Blk.new wr _ #[.int .i64 pk, .int .i64 pn, str psx]
          have hxq : Ext [] w0 (wr.alloc (.cells #[.int .i64 pk, .int .i64 pn, str psx] 38)) := hxr.alloc _
          have hrq := hr.keep ((Ext.refl [] wr).alloc (.cells #[.int .i64 pk, .int .i64 pn, str psx] 38)) (by simp)
          have hgq := hr.lt
          go_wp2_with fail
          obtain ⟨wq, hwq⟩ : ∃ wq, wq = wr.alloc (.cells #[.int .i64 pk, .int .i64 pn, str psx] 38) := ⟨_, rfl⟩
          obtain ⟨q, hqq⟩ : ∃ q, q = wr.heap.size := ⟨_, rfl⟩
          rw [← hwq, ← hqq] at b0
          rw [← hwq] at hxq hrq ⊢
          rw [← hqq] at hgq ⊢
          clear c0 c1 c2 hxr hr hwq hqq
          have hPc : ∀ F w', Ext F wq w' → q ∉ F → w'.cell? ⟨q, 0, none⟩ = some (.int .i64 pk) ∧ w'.cell? ⟨q, 1, none⟩ = some (.int .i64 pn) ∧ w'.cell? ⟨q, 2, none⟩ = some (str psx) := fun F w' h hF => by
            have h' := b0.keep h hF
            exact ⟨h'.c 0, h'.c 1, h'.c 2⟩
          have hP : ∀ w', Ext [] wq w' → (Ext [] wq w' ∧ w'.cell? ⟨q, 0, none⟩ = some (.int .i64 pk) ∧ w'.cell? ⟨q, 1, none⟩ = some (.int .i64 pn) ∧ w'.cell? ⟨q, 2, none⟩ = some (str psx)) := fun w' h => ⟨h, hPc _ _ h (by simp)⟩
          have hE : Ext [] wq wq := Ext.refl _ _
          have hqw : q < wq.heap.size := b0.lt
          go_cut [9] from 61 to 94 (fun p9 wx => ∃ B, p9 = .pointer (some ⟨B, 0, none⟩) ∧ wq.heap.size ≤ B ∧ Blk wx B 38 [.int .i64 (kindZ pk), .int .i64 (min (max pn 0) 281474976710655), str []] ∧ Ext [] wq wx)
          case first =>
            go_region_held3 (fun w' => Ext [] wq w' ∧ w'.cell? ⟨q, 0, none⟩ = some (.int .i64 pk) ∧ w'.cell? ⟨q, 1, none⟩ = some (.int .i64 pn) ∧ w'.cell? ⟨q, 2, none⟩ = some (str psx)) (first | exact hP _ (by assumption) | (go_split_ands; apply hP; (repeat' (first | assumption | exact Ext.refl _ _ | apply Ext.drew | (refine Ext.alloc ?_ _) | (refine Ext.setCell ?_ (by first | (right; simp; done) | (right; have := hx.size; simp at this ⊢; omega) | (left; simp; done)) _) | (refine Ext.then0 ?_ hx) | (refine Ext.trans ?_ hx (by simp)))); done))
              (first | (go_at_call 23; refine (kind_any pk pn psx _).mono ?_; rintro e w5 ⟨rfl, hx⟩; have hs5 := hx.size; simp at hs5; first | (have kk := Blk.keep (show Blk (World.drew (wq.alloc (.cells #[.int .i64 0, .int .i64 0, str []] 38))) wq.heap.size _ _ from Blk.new wq _ _) hx (by simp); have kl := kk.lt; have k0 := kk.c 0; have k1 := kk.c 1; have k2 := kk.c 2; have f0 := kk.f 0; have f1 := kk.f 1; have f2 := kk.f 2; simp only [List.getElem?_cons_zero, List.getElem?_cons_succ] at k0 k1 k2) | skip))
            all_goals (go_wp2_with fail; go_meet; first
              | exact ⟨_, rfl, by omega, Blk.new w5 _ _, by go_split_ands; assumption⟩
              | exact ⟨_, rfl, by omega, ((kk.set 0 _).set 1 _).set 2 _, by go_split_ands; assumption⟩)
          case rest =>
            obtain ⟨B, rfl, hB, b9, hxc⟩ := hcut
            have c8 := b0.keep hxc (by simp)
            have c0 := c8.c 0
            have c1 := c8.c 1
            have c2 := c8.c 2
            simp only [List.getElem?_cons_zero, List.getElem?_cons_succ] at c0 c1 c2
            have hcq := c8.lt
            clear hP hPc
            go_wp2_with fail
            refine (kind_any pk pn psx _).mono ?_
            rintro e w5 ⟨rfl, hx5⟩
            have hx6 : Ext [] wq w5 := hxc.then0 hx5
            have c8' := c8.keep hx5 (by simp)
            have b9' := b9.keep hx5 (by simp)
            have hBl := b9'.lt
            have hql := c8'.lt
            have e0 := b9'.f 0
            have e1 := b9'.f 1
            have e2 := b9'.f 2
            have d1 := c8'.c 1
            have d2 := c8'.c 2
            have g0 := b9'.c 0
            have g1 := b9'.c 1
            have g2 := b9'.c 2
            simp only [List.getElem?_cons_zero, List.getElem?_cons_succ] at d1 d2 g0 g1 g2
            clear c0 c1 c2 c8 b9 hxc hx5
            go_upto_block 5 with fail
            go_cut [] from 61 to 94 (fun wx => Blk wx B 38 (normP ⟨pk, pn, psx⟩).cells ∧ Ext [] wq wx)
            case first =>
              rcases kindZ_cases pk with hk0 | hk0 | hk0
              · have hb0 : (kindZ pk == 0) = true := by simp [hk0]
                have HN : Hid (normP ⟨pk, pn, psx⟩ = ⟨kindZ pk, min (max pn 0) 281474976710655, []⟩) := by show _ = _; rw [normP, if_pos hk0, hk0, clamp_cast]
                clear hk0
                go_wp2_with fail
                go_meet
                exact ⟨by rw [HN.out]; exact b9', hx6⟩
              · have hb0 : (kindZ pk == 0) = false := by simp [hk0]
                have hb1 : (kindZ pk == 1) = true := by simp [hk0]
                have HN : Hid (normP ⟨pk, pn, psx⟩ = ⟨1, 0, psx⟩) := by show _ = _; rw [normP, if_neg (by show ¬ kindZ pk = 0; omega), if_pos hk0]
                clear hk0
                go_wp2_with fail
                go_meet
                exact ⟨by rw [HN.out]; exact (((b9'.set 0 _).set 1 _).set 2 _), ((hx6.setCell (.inr hB) _).setCell (.inr hB) _).setCell (.inr hB) _⟩
              · have hb0 : (kindZ pk == 0) = false := by simp [hk0]
                have hb1 : (kindZ pk == 1) = false := by simp [hk0]
                have hb2 : (kindZ pk == 2) = true := by simp [hk0]
                have HN : Hid (normP ⟨pk, pn, psx⟩ = ⟨kindZ pk, pn % 2, []⟩) := by show _ = _; rw [normP, if_neg (by show ¬ kindZ pk = 0; omega), if_neg (by show ¬ kindZ pk = 1; omega), hk0]
                clear hk0
                go_wp2_with fail
                go_meet
                exact ⟨by rw [HN.out]; exact b9'.set 1 _, hx6.setCell (.inr hB) _⟩
            case rest =>
              obtain ⟨b9, hxc⟩ := hcut
              have hrc := hrq.keep hxc (by simp)
              have b8 := b0.keep hxc (by simp)
              have hxw : Ext [] w0 wc := hxq.then0 hxc
              clear hx6 c8' b9' e0 e1 e2 d1 d2 g0 g1 g2 hrq b0 hxc hxq hql hBl hcq
              obtain ⟨⟨nk, nn, ns⟩, hn⟩ : ∃ n, n = normP ⟨pk, pn, psx⟩ := ⟨_, rfl⟩
              rw [← hn] at b9 hread
              clear hn
              have hP : ∀ w', Ext [g] wc w' → (Ext [g] wc w' ∧ w'.cell? ⟨q, 0, none⟩ = some (.int .i64 pk) ∧ w'.cell? ⟨q, 1, none⟩ = some (.int .i64 pn) ∧ w'.cell? ⟨q, 2, none⟩ = some (str psx) ∧ w'.cell? ⟨B, 0, none⟩ = some (.int .i64 nk) ∧ w'.cell? ⟨B, 1, none⟩ = some (.int .i64 nn) ∧ w'.cell? ⟨B, 2, none⟩ = some (str ns)) := fun w' h => by
                have h8 := b8.keep h (by simp; omega)
                have h9 := b9.keep h (by simp; omega)
                exact ⟨h, h8.c 0, h8.c 1, h8.c 2, h9.c 0, h9.c 1, h9.c 2⟩
              have hE : Ext [g] wc wc := Ext.refl _ _
              go_wp2_with fail
              go_region_held3 (fun w' => Ext [g] wc w' ∧ w'.cell? ⟨q, 0, none⟩ = some (.int .i64 pk) ∧ w'.cell? ⟨q, 1, none⟩ = some (.int .i64 pn) ∧ w'.cell? ⟨q, 2, none⟩ = some (str psx) ∧ w'.cell? ⟨B, 0, none⟩ = some (.int .i64 nk) ∧ w'.cell? ⟨B, 1, none⟩ = some (.int .i64 nn) ∧ w'.cell? ⟨B, 2, none⟩ = some (str ns)) (first | exact hP _ (by assumption) | (go_split_ands; apply hP; (repeat' (first | assumption | exact Ext.refl _ _ | apply Ext.drew | (refine Ext.alloc ?_ _) | (refine Ext.setCell ?_ (by first | (right; simp; done) | (right; have := hx.size; simp at this ⊢; omega) | (left; simp; done)) _) | (refine Ext.then0 ?_ hx) | (refine Ext.trans ?_ hx (by simp)))); done))
                (first
                  | (go_at_call 30; refine (hread _ (hrc.keep (Ext.drew (Ext.refl [] _)) (by simp))).mono ?_; rintro e w5 ⟨rfl, h5, hx⟩)
                  | (go_at_call 31; refine (rok_any g _ _ h5).mono ?_; rintro e w5 ⟨rfl, rfl⟩))
              have hxf : Ext [g] wc w5 := by go_split_ands; assumption
              have hx9 : Ext [] w0 w5 := hxw.trans hxf (by simpa using hg)
              clear hx hxf hxw
              go_wp2
              go_roundw
              case rel => exact ⟨j + 1, by omega, by go_num, by rw [HRE.out]; exact h5, hx9⟩
              case measure => simp [intOf]; omega
        · obtain rfl : j = k := by omega
          rw [List.drop_of_length_le (by omega)] at hr
          have hd : doneR (layAll [], false) = 0 := rfl
          clear hR hall hlall
          go_wp2_with fail
          refine (rdone_any g _ _ hr).mono ?_
          rintro e w4 ⟨rfl, rfl⟩
          rw [hd]
          clear hr hd
          go_wp2
          go_ret
          exact ⟨rfl, hxr⟩
end Go.Proofs.Ytoeccimbechfeaa
