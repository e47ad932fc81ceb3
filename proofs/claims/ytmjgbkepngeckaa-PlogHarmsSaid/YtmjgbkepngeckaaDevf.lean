/- The device's Flip. -/
import Derived.Test.YtmjgbkepngeckaaDevb
import Derived.Test.YtmjgbkepngeckaaHeld
import Derived.Test.YtmjgbkepngeckaaBits
namespace Go.Proofs.Ytmjgbkepngeckaa
open Go.RowKit
set_option linter.unusedVariables false

set_option maxRecDepth 100000 in
theorem flip_no (b : Nat) (F : List Nat) (D : Dv) (k at_ : Int) (c : UInt8) (w : World) (h : DevAt w b F D) (hr : ¬ (0 ≤ k ∧ k < D.size)) :
    Calls Try.prog 39 #[.pointer (some ⟨b, 0, none⟩), .int .i64 k, .int .i64 at_, .int .u8 (c.toNat : Int)] w fun e w' => e = .returned (.tuple #[]) ∧ DevTo w w' b F (flipD k at_ c D) := by
  have HD : Hid (flipD k at_ c D = D) := by show _ = _; rw [flipD, if_neg (fun h => hr ⟨h.1, h.2.1⟩)]
  have hto : DevTo w w b F D := ⟨Ext.refl _ _, F, h, fun k hk => .inl hk⟩
  obtain ⟨m1, m3, m4, sv, hi, hb, h1, h3, h4, hs⟩ := id h
  have c0 := hi.c.1
  by_cases hk : k < 0
  · clear hr
    go_enter Try.func39, Try.ntmps39
    go_wp2
    (refine bodyPost_ret (results_none rfl _ _ _) rfl ?_)
    exact ⟨rfl, by rw [HD.out]; exact hto⟩
  · have hk2 : D.size ≤ k := by omega
    clear hr
    go_enter Try.func39, Try.ntmps39
    go_wp2
    (refine bodyPost_ret (results_none rfl _ _ _) rfl ?_)
    exact ⟨rfl, by rw [HD.out]; exact hto⟩

set_option maxRecDepth 100000 in
set_option maxHeartbeats 800000 in
theorem flip_in (b : Nat) (F : List Nat) (D : Dv) (k at_ : Int) (c : UInt8) (w : World) (h : DevAt w b F D) (hok : DvOk D) (hr : 0 ≤ k ∧ k < D.size) (hat : -9223372036854775808 ≤ at_ ∧ at_ ≤ 9223372036854775807) :
    Calls Try.prog 39 #[.pointer (some ⟨b, 0, none⟩), .int .i64 k, .int .i64 at_, .int .u8 (c.toNat : Int)] w fun e w' => e = .returned (.tuple #[]) ∧ DevTo w w' b F (flipD k at_ c D) := by
  obtain ⟨m1, m3, m4, sv, hi, hb, h1, h3, h4, hs⟩ := id h
  obtain ⟨c0, c1, _, _, c4, _, _⟩ := hi.c
  obtain ⟨hr0, hr1⟩ := hr
  have hl := hok.safe k
  have hlk := hi.safe.lookup (P := Try.prog) Try.underlying91 Try.underlying3 zero_str k
  obtain ⟨l, hll'⟩ : ∃ l, l = D.safe k := ⟨_, rfl⟩
  rw [← hll'] at hl hlk
  have hll : Hid (l = D.safe k) := hll'
  clear hll'
  go_enter Try.func39, Try.ntmps39
  go_wp2_with (first | ((with_reducible refine wpl_bytes (d := some 29) 5 Try.underlying9 Try.underlying62 Try.underlying5 ⟨l.toArray⟩ ?_ ?_ ?_)))
  · rfl
  · show l.length ≤ _; unfold maxLen; omega
  intro cp w1 ho hx1 hsz
  have ho' : Own w1 5 1 (.slice (some ⟨w.heap.size, 0, none⟩) l.length cp) l.length (bcells l) := ho
  have hi1 := hi.keep0 hx1
  have hbl := hi.blk.lt
  have hml := hi.safe.lt
  have hnl := hi.hurt.lt
  have hnl3 := hi.lost.lt
  have hslt := hi.slt
  obtain ⟨g, hg⟩ : ∃ g, g = w.heap.size := ⟨_, rfl⟩
  rw [← hg] at ho' hsz hbl hml hnl hnl3 hslt ⊢
  have HG : Hid (g = w.heap.size) := hg
  clear ho hlk c0 c1 c4 hi hg
  obtain ⟨c0, c1, _, _, c4, _, _⟩ := hi1.c
  have hto : ∀ D', D' = D → DevTo w w1 b F D' := fun D' hD => by rw [hD]; exact DevTo.of (hx1.mono (by simp)) hi1 hb h1 h3 h4 (fun x hx' => .inl (hs x hx'))
  by_cases h0 : l = []
  · have HD : Hid (flipD k at_ c D = D) := by show _ = _; rw [flipD, if_neg (fun h => h.2.2.1 (by rw [← hll.out, h0]))]
    have e0 : ((l.length : Int) == 0) = true := by simp [h0]
    clear h0 hll
    go_wp2
    (refine bodyPost_ret (results_none rfl _ _ _) rfl ?_)
    exact ⟨rfl, hto _ HD.out⟩
  · have hlp : 0 < l.length := List.length_pos_iff.2 h0
    have e0 : ((l.length : Int) == 0) = false := by simp; exact h0
    by_cases hc : c = 0
    · have HD : Hid (flipD k at_ c D = D) := by show _ = _; rw [flipD, if_neg (fun h => h.2.2.2.1 hc)]
      have e1 : ((c.toNat : Int) == 0) = true := by rw [hc]; rfl
      clear h0 hll hc
      go_wp2
      (refine bodyPost_ret (results_none rfl _ _ _) rfl ?_)
      exact ⟨rfl, hto _ HD.out⟩
    · have e1 : ((c.toNat : Int) == 0) = false := by
        rw [beq_eq_false_iff_ne]
        intro h
        exact hc (UInt8.toNat_inj.1 (by rw [show (0 : UInt8).toNat = 0 from rfl]; omega))
      have hlk4 := hi1.hurt.lookup (P := Try.prog) Try.underlying84 Try.underlying3 zero_bool k
      by_cases hh : D.hurt k = true
      · have HD : Hid (flipD k at_ c D = D) := by show _ = _; rw [flipD, if_neg (fun h => by rw [hh] at h; exact absurd h.2.2.2.2 (by simp))]
        rw [hh] at hlk4
        clear h0 hll hc hh
        go_wp2
        (refine bodyPost_ret (results_none rfl _ _ _) rfl ?_)
        exact ⟨rfl, hto _ HD.out⟩
      · have hh' : D.hurt k = false := by simpa using hh
        have HD : Hid (flipD k at_ c D = { D with hurt := setF D.hurt k true, safe := setF D.safe k (flipL l at_ c) }) := by
          show _ = _
          rw [flipD, if_pos ⟨hr0, hr1, by rw [← hll.out]; exact h0, hc, hh'⟩, ← hll.out]
        rw [hh'] at hlk4
        clear h0 hll hc hh
        go_wp2_with (first | ((with_reducible refine wpl_mapset Try.underlying84 Try.underlying3 hi1.hurt k (.bool true) ?_ ?_ ?_ ?_)))
        all_goals try rfl
        intro w2 hm2 hx2
        have hi2 := hi1.setHurt k true hm2 hx2
        have hgm : g ≠ m4 := by omega
        have ho2 := ho'.keep hx2 (by simp [vblocks]; exact hgm)
        clear hlk4 hm2 c0 c1 c4 ho' hto
        obtain ⟨j, hj⟩ : ∃ j, j = uint at_ % l.length := ⟨_, rfl⟩
        have hjl : j < l.length := by rw [hj]; exact Nat.mod_lt _ hlp
        have er : (IntKind.u64.wrap at_).tmod (l.length : Int) = (j : Int) := by
          rw [hj, IntKind.wrap_u64, Int.tmod_eq_emod_of_nonneg (Int.emod_nonneg _ (by omega)), Int.natCast_emod]
          congr 1
          unfold uint
          omega
        have hgd : l.getD j 0 = l[j] := by simp [List.getD, hjl]
        have hcj := ho2.cell j (by omega)
        have hfj := ho2.frozen j (by omega)
        have hst := ho2.store j (.int .u8 ((l[j] ^^^ c).toNat : Int)) (by omega)
        rw [Nat.zero_add] at hcj hfj hst
        rw [bcells, List.getElem?_map, List.getElem?_eq_getElem hjl, Option.map_some] at hcj
        have hbs : (bcells l).set j (.int .u8 ((l[j] ^^^ c).toNat : Int)) = bcells (flipL l at_ c) := by
          unfold flipL
          rw [← hj, hgd, bcells, bcells, List.map_set]
        rw [hbs] at hst
        have hx8 := b8_xor l[j] c
        have hfl := flipL_length l at_ c
        obtain ⟨x, hx⟩ : ∃ x, x = l[j] := ⟨_, rfl⟩
        rw [← hx] at hcj hst hx8
        obtain ⟨y, hy⟩ : ∃ y, y = x ^^^ c := ⟨_, rfl⟩
        rw [← hy] at hst hx8
        have hj1 : (j : Int) < (l.length : Int) := by omega
        have hj0 : (0 : Int) ≤ (j : Int) := by omega
        clear hj hgd hbs hx hy ho2
        go_wp2_with fail
        obtain ⟨w3, hw3⟩ : ∃ w3, w3 = w2.setCell ⟨g, j, none⟩ (.int .u8 (y.toNat : Int)) := ⟨_, rfl⟩
        have hx3 : Ext [g] w2 w3 := by rw [hw3]; exact Ext.one _
        rw [← hw3] at hst ⊢
        have hi3 := hi2.keep hx3 (not_mem_one (by omega)) (not_mem_one (by omega)) (not_mem_one (by omega)) (not_mem_one (by omega)) (fun x hx' => not_mem_one (by have := hslt x hx'; omega))
        have hob : OwnB w3 (.slice (some ⟨g, 0, none⟩) l.length cp) (flipL l at_ c) := by unfold OwnB; rw [hfl]; exact hst
        obtain ⟨L, hL⟩ : ∃ L, L = flipL l at_ c := ⟨_, rfl⟩
        rw [← hL] at hob HD
        obtain ⟨w9, hrun, hm9, hx9⟩ := (hi3.safe.keep ((Ext.refl [] _).drew) (by simp)).update (P := Try.prog) (t := 91) Try.underlying91 Try.underlying3 k (str L)
        have hi9 := hi3.setSafe k L hm9 ((Ext.refl _ _).drew.trans hx9 (by simp))
        have hgm1 : g ≠ m1 := by omega
        have hP : ∀ w', Ext [m1] w3 w' → (Ext [m1] w3 w' ∧ w'.cell? ⟨b, 1, none⟩ = some (.map (some m1)) ∧ (convert 62 9 (.slice (some ⟨g, 0, none⟩) l.length cp)).run Try.prog w' = .ok (str L) w') := fun w' hx' =>
          ⟨hx', hx'.cell (p := ⟨b, 1, none⟩) (not_mem_one hi3.n1.symm) hi3.c.2.1, (hob.keep hx' (by simp [vblocks]; exact hgm1)).str⟩
        have hE3 : Ext [m1] w3 w3 := Ext.refl _ _
        have hE9 : Ext [m1] w3 w9 := (Ext.refl _ _).drew.trans hx9 (by simp)
        have hgw : w.heap.size ≤ g := by have := HG.out; omega
        clear hst hcj hfj hL hw3 er hx8 hj0 hj1 hfl hm9
        go_region_held3 (fun w' => Ext [m1] w3 w' ∧ w'.cell? ⟨b, 1, none⟩ = some (.map (some m1)) ∧ (convert 62 9 (.slice (some ⟨g, 0, none⟩) l.length cp)).run Try.prog w' = .ok (str L) w') (first | exact hP _ (by assumption) | (go_split_ands; apply hP; (repeat' (first | assumption | exact Ext.refl _ _ | apply Ext.drew | (refine Ext.alloc ?_ _) | (refine Ext.setCell ?_ (by first | (right; simp; done) | (right; have := hx.size; simp at this ⊢; omega) | (left; simp; done)) _) | (refine Ext.then0 ?_ hx) | (refine Ext.trans ?_ hx (by simp)))); done)) (fail)
        clear hP hrun
        have hx10 : Ext F w w9 := (((hx1.mono (by simp) : Ext F w w1).trans hx2 (by simp; exact .inl h4)).trans hx3 (by simp; exact .inr (by omega))).trans hE9 (by simp; exact .inl h1)
        go_wp2
        first | go_end0 | (refine bodyPost_ret (results_none rfl _ _ _) rfl ?_)
        exact ⟨rfl, by rw [HD.out]; exact DevTo.of hx10 hi9 hb h1 h3 h4 (fun x hx' => .inl (hs x hx'))⟩

theorem flip_any (b : Nat) (F : List Nat) (D : Dv) (k at_ : Int) (c : UInt8) (w : World) (h : DevAt w b F D) (hok : DvOk D) (hat : -9223372036854775808 ≤ at_ ∧ at_ ≤ 9223372036854775807) :
    Calls Try.prog 39 #[.pointer (some ⟨b, 0, none⟩), .int .i64 k, .int .i64 at_, .int .u8 (c.toNat : Int)] w fun e w' => e = .returned (.tuple #[]) ∧ DevTo w w' b F (flipD k at_ c D) := by
  by_cases hr : 0 ≤ k ∧ k < D.size
  · exact flip_in b F D k at_ c w h hok hr hat
  · exact flip_no b F D k at_ c w h hr
end Go.Proofs.Ytmjgbkepngeckaa
