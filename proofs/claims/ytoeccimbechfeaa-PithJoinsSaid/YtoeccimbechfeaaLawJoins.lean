/- PithJoins: the walk. -/
import Derived.Test.YtoeccimbechfeaaLawLays
namespace Go.Proofs.Ytoeccimbechfeaa
open Go.RowKit
set_option linter.unusedVariables false
attribute [local go_sem high] run_max2 run_min2
attribute [local go_sem] i64_and1 i64_and255 i64_and65535

set_option maxHeartbeats 1600000 in
/-- The closure: what is there, and the parts behind it. -/
theorem joinsAll_any {w0 : World} (v : Value) (o0 : List UInt8) (a : Option Addr) (len cap : Nat) (ps : List Part) (ho0 : OwnB w0 v o0) (hR : Rd w0 3 (.slice a len cap) len (ps.flatMap Part.cells)) (hlen : len ≤ 40) (hps : ∀ p ∈ ps, p.s.length ≤ 300) (hol0 : o0.length ≤ 100000000) (hbv : 0 < len → ∀ k ∈ vblocks (.slice a len cap), k ∉ vblocks v) :
    Calls Try.prog 22 #[v, .slice a len cap] w0 (Laid w0 v (o0 ++ layAll ps)) := by
  have hl : ps.length = len := by have := hR.len.2.2.2; rw [flatMap_len _ 3 pcells_len] at this; omega
  go_enter Try.func22, Try.ntmps22
  go_wp2
  go_loopw [0, 9] (fun v' i wr => ∃ k : Nat, k ≤ len ∧ i = .int .i64 k ∧ OwnB wr v' (o0 ++ layAll (ps.take k)) ∧ (∀ x ∈ vblocks v', x ∈ vblocks v ∨ w0.heap.size ≤ x) ∧ Ext (vblocks v) w0 wr) (fun _ i _ => len - (intOf i).toNat)
  case atStart => exact ⟨0, by omega, rfl, by simpa [layAll] using ho0, fun x hx => .inl hx, Ext.refl _ _⟩
  case round =>
    clear ho0
    obtain ⟨k, hk, rfl, ho, hv, hxr⟩ := hrel
    by_cases hlt : k < len
    · obtain ⟨b, off, rfl, hbw, hc⟩ := hR.view (by omega)
      have c0 := hxr.cell (p := ⟨b, off + k * 3, none⟩) (hbv (by omega) b (by simp [vblocks])) (hc (k * 3 + 0) (.int .i64 ps[k].k) (by rw [flatMap_get _ 3 pcells_len _ k 0 (by omega) (by omega)]; rfl))
      have c1 := hxr.cell (p := ⟨b, off + (k * 3 + 1), none⟩) (hbv (by omega) b (by simp [vblocks])) (hc (k * 3 + 1) (.int .i64 ps[k].n) (by rw [flatMap_get _ 3 pcells_len _ k 1 (by omega) (by omega)]; rfl))
      have c2 := hxr.cell (p := ⟨b, off + (k * 3 + 2), none⟩) (hbv (by omega) b (by simp [vblocks])) (hc (k * 3 + 2) (str ps[k].s) (by rw [flatMap_get _ 3 pcells_len _ k 2 (by omega) (by omega)]; rfl))
      have htk : Hid (o0 ++ layAll (ps.take (k + 1)) = o0 ++ layAll (ps.take k) ++ layP ps[k]) := by
        show _ = _
        rw [List.take_succ_eq_append_getElem (by omega), layAll_append, layAll_one, List.append_assoc]
      have hol : (o0 ++ layAll (ps.take k)).length ≤ 110000000 := by
        have := layAll_le (ps.take k) (fun p hp => by have := hps p (List.mem_of_mem_take hp); omega)
        rw [List.length_take] at this
        have : min k ps.length ≤ 40 := by omega
        rw [List.length_append]
        omega
      have hsl := hps ps[k] (List.getElem_mem _)
      obtain ⟨p, hp⟩ : ∃ p, p = ps[k] := ⟨_, rfl⟩
      obtain ⟨o, hoo⟩ : ∃ o, o = o0 ++ layAll (ps.take k) := ⟨_, rfl⟩
      rw [← hp] at c0 c1 c2 htk hsl
      rw [← hoo] at htk hol ho
      clear hp hoo hc hR hl hps hol0
      obtain ⟨pk, pn, psx⟩ := p
      simp only at c0 c1 c2 hsl
      rw [← Nat.add_assoc] at c1 c2
      have hlt2 := ho.lt
      go_wp2_with fail
      refine (kind_any pk pn psx _).mono ?_
      rintro e w2 ⟨rfl, hx2⟩
      have hx3 : Ext (vblocks v) w0 w2 := (hxr.alloc _).then0 hx2
      have q0 : Blk w2 wr.heap.size 38 [.int .i64 pk, .int .i64 pn, str psx] := (Blk.new wr _ #[.int .i64 pk, .int .i64 pn, str psx]).keep hx2 (by simp)
      have ho2 := ho.keep (((Ext.refl [] wr).alloc _).then0 hx2) (by simp)
      have d1 := q0.c 1
      have d2 := q0.c 2
      simp only [List.getElem?_cons_zero, List.getElem?_cons_succ] at d1 d2
      have hq := q0.lt
      obtain ⟨q, hqq⟩ : ∃ q, q = wr.heap.size := ⟨_, rfl⟩
      rw [← hqq] at d1 d2 hq ⊢
      have hlt2 := ho2.lt
      clear c0 c1 c2 q0 hxr ho hx2 hqq
      by_cases hk0 : kindZ pk = 0
      · have HR : Hid (layP ⟨pk, pn, psx⟩ = encNum pn) := if_pos hk0
        rw [hk0]
        go_wp2_with fail
        refine (num_any _ o _ 1 1 [pn] _ (by omega) (by omega) (ho2.keep ((Ext.refl [] w2).alloc _) (by simp)) (Rd.ints1 pn) (by intro x hx hx2; simp [vblocks] at hx; have := hlt2 x hx2; omega)).mono ?_
        rintro e w3 ⟨v', rfl, ho3, hx4, hv'⟩
        have hx5 : Ext (vblocks v) w0 w3 := (hx3.alloc _).trans hx4 (fun x hx => hv x hx)
        have hv3 : ∀ x ∈ vblocks v', x ∈ vblocks v ∨ w0.heap.size ≤ x := fun x hx => by
          rcases hv' x hx with h | h
          · exact hv x h
          · have := hx3.size; simp at h; omega
        clear hx3 hx4 ho2 hv' hlt2 d1 d2
        go_wp2
        go_roundw
        case rel => exact ⟨k + 1, by omega, by go_num, by rw [htk.out, HR.out, ← encNums_one]; exact ho3, hv3, hx5⟩
        case measure => simp [intOf]; omega
      · have hk0' : (kindZ pk == 0) = false := by simp [hk0]
        by_cases hk1 : kindZ pk = 1
        · have HR : Hid (layP ⟨pk, pn, psx⟩ = encText psx) := by show _ = _; rw [layP, if_neg hk0, if_pos hk1, encText_short _ (by omega)]
          clear hk0 hk0'
          rw [hk1]
          go_wp2_with fail
          refine (text_any _ o _ 1 1 [psx] _ (by omega) (by omega) (ho2.keep ((Ext.refl [] w2).alloc _) (by simp)) (Rd.strs1' psx) (by intro x hx hx2; simp [vblocks] at hx; have := hlt2 x hx2; omega)).mono ?_
          rintro e w3 ⟨v', rfl, ho3, hx4, hv'⟩
          have hx5 : Ext (vblocks v) w0 w3 := (hx3.alloc _).trans hx4 (fun x hx => hv x hx)
          have hv3 : ∀ x ∈ vblocks v', x ∈ vblocks v ∨ w0.heap.size ≤ x := fun x hx => by
            rcases hv' x hx with h | h
            · exact hv x h
            · have := hx3.size; simp at h; omega
          clear hx3 hx4 ho2 hv' hlt2 d1 d2
          go_wp2
          go_roundw
          case rel => exact ⟨k + 1, by omega, by go_num, by rw [htk.out, HR.out, ← encTexts_one]; exact ho3, hv3, hx5⟩
          case measure => simp [intOf]; omega
        · have hk1' : (kindZ pk == 1) = false := by simp [hk1]
          have HR : Hid (layP ⟨pk, pn, psx⟩ = encFlag (pn % 2 == 1)) := by show _ = _; rw [layP, if_neg hk0, if_neg hk1, encFlag_num]
          clear hk0 hk1
          go_wp2_with fail
          refine (flag_any _ o _ 1 1 [pn % 2 == 1] _ (by omega) (by omega) (ho2.keep ((Ext.refl [] w2).alloc _) (by simp)) (Rd.bools1 (pn % 2 == 1)) (by intro x hx hx2; simp [vblocks] at hx; have := hlt2 x hx2; omega)).mono ?_
          rintro e w3 ⟨v', rfl, ho3, hx4, hv'⟩
          have hx5 : Ext (vblocks v) w0 w3 := (hx3.alloc _).trans hx4 (fun x hx => hv x hx)
          have hv3 : ∀ x ∈ vblocks v', x ∈ vblocks v ∨ w0.heap.size ≤ x := fun x hx => by
            rcases hv' x hx with h | h
            · exact hv x h
            · have := hx3.size; simp at h; omega
          clear hx3 hx4 ho2 hv' hlt2 d1 d2
          go_wp2
          go_roundw
          case rel => exact ⟨k + 1, by omega, by go_num, by rw [htk.out, HR.out, ← encFlags_one]; exact ho3, hv3, hx5⟩
          case measure => simp [intOf]; omega
    · have hkl : k = len := by omega
      subst hkl
      rw [List.take_of_length_le (by omega)] at ho
      clear hR hl hps
      go_wp2
      go_ret
      exact ⟨_, rfl, ho, hxr, hv⟩

theorem el_part : Elem Try.prog 36 38 (.agg #[.int .i64 0, .int .i64 0, str []]) 3 32 := Elem.mk' Try.underlying36 rfl (by kernel_rfl)
theorem pcells_one (ps : List Part) : ∀ u ∈ ps.flatMap Part.cells, u.oneCell' = true := by
  intro u hu
  obtain ⟨p, _, hp⟩ := List.mem_flatMap.1 hu
  simp [Part.cells] at hp
  rcases hp with rfl | rfl | rfl <;> rfl

theorem joins_long {w0 : World} (a : Option Addr) (len cap : Nat) (a' : Option Addr) (len' cap' : Nat) (l : List UInt8) (hh : 20 < len ∨ 20 < len' ∨ 100 < l.length) :
    Calls Try.prog 8 #[.slice a len cap, .slice a' len' cap', str l] w0 fun e w' => e = .returned (.bool true) ∧ Ext [] w0 w' := by
  by_cases h1 : 20 < len
  · clear hh
    go_enter Try.func8, Try.ntmps8
    go_wp2_with fail
    refine (head1_any _).mono ?_
    rintro e w1 ⟨rfl, hx⟩
    go_wp2
    all_goals (go_ret; exact ⟨rfl, hx⟩)
  by_cases h2 : 20 < len'
  · clear hh
    go_enter Try.func8, Try.ntmps8
    go_wp2_with fail
    refine (head1_any _).mono ?_
    rintro e w1 ⟨rfl, hx⟩
    go_wp2
    all_goals (go_ret; exact ⟨rfl, hx⟩)
  · have h3 : 100 < l.length := by omega
    clear hh
    go_enter Try.func8, Try.ntmps8
    go_wp2_with fail
    refine (head1_any _).mono ?_
    rintro e w1 ⟨rfl, hx⟩
    go_wp2
    all_goals (go_ret; exact ⟨rfl, hx⟩)

set_option maxHeartbeats 3200000 in
theorem joins_any {w0 : World} (a : Option Addr) (len cap : Nat) (ps : List Part) (hR : Rd w0 3 (.slice a len cap) len (ps.flatMap Part.cells)) (_ : ∀ p ∈ ps, WfPart p)
    (a' : Option Addr) (len' cap' : Nat) (qs : List Part) (hR' : Rd w0 3 (.slice a' len' cap') len' (qs.flatMap Part.cells)) (_ : ∀ p ∈ qs, WfPart p) (l : List UInt8) (_ : l.length ≤ maxLen) :
    Calls Try.prog 8 #[.slice a len cap, .slice a' len' cap', str l] w0 fun e w' => e = .returned (.bool true) ∧ Ext [] w0 w' := by
  by_cases hh : 20 < len ∨ 20 < len' ∨ 100 < l.length
  · exact joins_long a len cap a' len' cap' l hh
  have h20 : len ≤ 20 := by omega
  have h20' : len' ≤ 20 := by omega
  have h100 : l.length ≤ 100 := by omega
  have b1 : decide (20 < (len : Int)) = false := by simp; omega
  have b2 : decide (20 < (len' : Int)) = false := by simp; omega
  have b3 : decide (100 < (l.length : Int)) = false := by simp; omega
  clear hh
  have hl : ps.length = len := by have := hR.len.2.2.2; rw [flatMap_len _ 3 pcells_len] at this; omega
  have hl' : qs.length = len' := by have := hR'.len.2.2.2; rw [flatMap_len _ 3 pcells_len] at this; omega
  go_enter Try.func8, Try.ntmps8
  go_wp2_with fail
  refine (head1_any _).mono ?_
  rintro e w1 ⟨rfl, hx⟩
  have hA : Rd w1 3 (.slice a len cap) len (ps.flatMap Part.cells) := hR.keep hx (by simp)
  have hB : Rd w1 3 (.slice a' len' cap') len' (qs.flatMap Part.cells) := hR'.keep hx (by simp)
  go_wp2_with (first | ((with_reducible refine wpl_append (d := some 27) 38 (.agg #[.int .i64 0, .int .i64 0, str []]) 3 32 el_part (.slice (some ⟨w1.heap.size, 0, none⟩) 0 0) 0 [] ?_ (Own.lit w1 #[] _ 3 0 rfl (by omega)) (.slice a len cap) len (ps.flatMap Part.cells) ?_ (hA.alloc _) (pcells_one ps) ?_ ?_ ?_)))
  · rfl
  · rfl
  · omega
  · unfold maxLen; omega
  · intro v2 w2 ho2 hx2 hv2 _
    have hx3 : Ext [] w0 w2 := (hx.alloc _).trans hx2 (by have := hx.size; simp [vblocks]; omega)
    have hv3 : ∀ k ∈ vblocks v2, w1.heap.size ≤ k := fun k hk => by
      rcases hv2 with h | h <;> rw [h] at hk <;> simp [vblocks] at hk <;> omega
    have hB2 : Rd w2 3 (.slice a' len' cap') len' (qs.flatMap Part.cells) := hR'.keep hx3 (by simp)
    have hs3 := hx3.size
    have hs1 := hx.size
    clear hA hB hx2 hx hv2
    go_wp2_with (first | ((with_reducible refine wpl_append (d := some 29) 38 (.agg #[.int .i64 0, .int .i64 0, str []]) 3 32 el_part v2 _ _ ?_ ho2 (.slice a' len' cap') len' (qs.flatMap Part.cells) ?_ hB2 (pcells_one qs) ?_ ?_ ?_)))
    · rfl
    · rfl
    · omega
    · unfold maxLen; omega
    · intro v3 w3 ho3 hx4 hv4 _
      have hx5 : Ext [] w0 w3 := hx3.trans hx4 (fun x hx => .inr (Nat.le_trans hs1 (hv3 x hx)))
      obtain ⟨n, hn⟩ : ∃ n, n = 0 + len + len' := ⟨_, rfl⟩
      have hRn : Rd w3 3 v3 n ((ps ++ qs).flatMap Part.cells) := by
        rw [hn, List.flatMap_append]
        simpa using Own.rd ho3
      obtain ⟨a3, cap3, rfl⟩ := hRn.isSlice
      have hn2 : n ≤ 40 := by omega
      have hnl : (ps ++ qs).length = n := by rw [List.length_append]; omega
      clear ho3 hx4 hv4 hB2 ho2 hv3 hx3 hs3 hs1 hn
      obtain ⟨rs, hrs⟩ : ∃ rs, rs = ps ++ qs := ⟨_, rfl⟩
      rw [← hrs] at hRn hnl
      have HRS : Hid (rs = ps ++ qs) := hrs
      clear hrs
      go_wp2
      go_loopw [31] (fun i wr => ∃ k : Nat, k ≤ n ∧ i = .int .i64 k ∧ (∀ p ∈ rs.take k, p.s.length ≤ 300) ∧ Ext [] w3 wr) (fun i _ => n - (intOf i).toNat)
      case atStart => exact ⟨0, by omega, rfl, by simp, Ext.refl _ _⟩
      case round =>
        obtain ⟨k, hk, rfl, hall, hxr⟩ := hrel
        by_cases hlt : k < n
        · obtain ⟨b, off, rfl, hbw, hc⟩ := hRn.view (by omega)
          have c0 := hxr.cell (p := ⟨b, off + k * 3, none⟩) (by simp) (hc (k * 3 + 0) (.int .i64 rs[k].k) (by rw [flatMap_get _ 3 pcells_len _ k 0 (by omega) (by omega)]; rfl))
          have c1 := hxr.cell (p := ⟨b, off + (k * 3 + 1), none⟩) (by simp) (hc (k * 3 + 1) (.int .i64 rs[k].n) (by rw [flatMap_get _ 3 pcells_len _ k 1 (by omega) (by omega)]; rfl))
          have c2 := hxr.cell (p := ⟨b, off + (k * 3 + 2), none⟩) (by simp) (hc (k * 3 + 2) (str rs[k].s) (by rw [flatMap_get _ 3 pcells_len _ k 2 (by omega) (by omega)]; rfl))
          have hall' : rs[k].s.length ≤ 300 → Hid (∀ p ∈ rs.take (k + 1), p.s.length ≤ 300) := by
            intro h p hp
            rw [List.take_succ_eq_append_getElem (by omega), List.mem_append] at hp
            rcases hp with hp | hp
            · exact hall p hp
            · simp at hp; rw [hp]; exact h
          obtain ⟨p, hp⟩ : ∃ p, p = rs[k] := ⟨_, rfl⟩
          rw [← hp] at c0 c1 c2 hall'
          clear hp hc hRn hnl hall
          obtain ⟨pk, pn, psx⟩ := p
          simp only at c0 c1 c2 hall'
          rw [← Nat.add_assoc] at c1 c2
          by_cases h300 : 300 < psx.length
          · clear hall'
            have hx6 : Ext [] w0 (wr.alloc (.cells #[.int .i64 pk, .int .i64 pn, str psx] 38)) := (hx5.then0 hxr).alloc _
            go_wp2
            go_ret
            exact ⟨rfl, hx6⟩
          · have hall2 := hall' (by omega)
            clear hall'
            go_wp2
            go_roundw
            case rel => exact ⟨k + 1, by omega, by go_num, hall2.out, hxr.alloc _⟩
            case measure => simp [intOf]; omega
        · obtain rfl : k = n := by omega
          rw [List.take_of_length_le (by omega), HRS.out] at hall
          have hxw : Ext [] w0 wr := hx5.then0 hxr
          have hps : ∀ p ∈ ps, p.s.length ≤ 300 := fun p hp => hall p (by simp [hp])
          have hqs : ∀ p ∈ qs, p.s.length ≤ 300 := fun p hp => hall p (by simp [hp])
          have hpl := layAll_le ps (fun p hp => by have := hps p hp; omega)
          have hql := layAll_le qs (fun p hp => by have := hqs p hp; omega)
          clear hall hRn hnl hxr hx5 HRS
          go_wp2_with fail
          have hRw := hR.keep hxw (by simp)
          have hRw' := hR'.keep hxw (by simp)
          have hbA : 0 < len → ∀ k ∈ vblocks (.slice a len cap), k < w0.heap.size := fun h k hk => by
            obtain ⟨b, off, rfl, hbw, _⟩ := hR.view (by omega)
            simp [vblocks] at hk; omega
          have hbB : 0 < len' → ∀ k ∈ vblocks (.slice a' len' cap'), k < w0.heap.size := fun h k hk => by
            obtain ⟨b, off, rfl, hbw, _⟩ := hR'.view (by omega)
            simp [vblocks] at hk; omega
          have hsw := hxw.size
          obtain ⟨v', w', hr, ho', hx', _, cap0, hv'⟩ := run_bytes_Own (P := Try.prog) (w := wr.drew) 9 23 5 ⟨l.toArray⟩ Try.underlying9 Try.underlying23 Try.underlying5 (by show l.length ≤ _; unfold maxLen; omega)
          have hob : OwnB w' v' l := ho'
          have hvb : ∀ k ∈ vblocks v', wr.heap.size ≤ k := fun k hk => by
            rw [hv'] at hk
            have e : wr.drew.heap.size = wr.heap.size := rfl
            simp [vblocks, e] at hk
            omega
          have hE0 : Ext [] wr w' := ((Ext.refl [] wr).drew).then0 hx'
          obtain ⟨X, hX⟩ : ∃ X, X = l ++ layAll ps := ⟨_, rfl⟩
          obtain ⟨Y, hY⟩ : ∃ Y, Y = X ++ layAll qs := ⟨_, rfl⟩
          have hm1 : (⟨l.toArray⟩ : ByteArray) ++ ⟨(layAll ps).toArray⟩ = ⟨X.toArray⟩ := by rw [ByteArray.mk_append_mk, hX]
          have hm2 : (⟨X.toArray⟩ : ByteArray) ++ ⟨(layAll qs).toArray⟩ = ⟨Y.toArray⟩ := by rw [ByteArray.mk_append_mk, hY]
          have hXl : X.length ≤ 10000000 := by rw [hX, List.length_append]; omega
          have hYl : Y.length ≤ 10000000 := by rw [hY, hX, List.length_append, List.length_append]; omega
          have HX : Hid (X = l ++ layAll ps) := hX
          have HY : Hid (Y = X ++ layAll qs) := hY
          have hpl2 : (layAll ps).length ≤ 10000000 := by omega
          have hql2 : (layAll qs).length ≤ 10000000 := by omega
          have hcA : Calls Try.prog 22 #[v', .slice a len cap] w' (Laid w' v' X) := by
            rw [hX]
            exact joinsAll_any v' l a len cap ps hob (hRw.keep hE0 (by simp)) (by omega) hps (by omega) (fun h k hk hk2 => by have := hbA h k hk; have := hvb k hk2; omega)
          have hcB : ∀ v1 w5, OwnB w5 v1 X → Ext [] wr w5 → (∀ k ∈ vblocks v1, wr.heap.size ≤ k) → Calls Try.prog 22 #[v1, .slice a' len' cap'] w5 (Laid w5 v1 Y) := fun v1 w5 h1 h2 h3 => by
            rw [hY]
            exact joinsAll_any v1 X a' len' cap' qs h1 (hRw'.keep h2 (by simp)) (by omega) hqs (by omega) (fun h k hk hk2 => by have := hbB h k hk; have := h3 k hk2; omega)
          have hl1 : ∀ w5, Ext [] wr w5 → Calls Try.prog 26 #[.slice a len cap] w5 fun e w' => e = .returned (str (layAll ps)) ∧ Ext [] w5 w' := fun w5 h => lay_any a len cap ps (hRw.keep h (by simp)) (by omega) (fun p hp => by have := hps p hp; omega)
          have hl2 : ∀ w5, Ext [] wr w5 → Calls Try.prog 26 #[.slice a' len' cap'] w5 fun e w' => e = .returned (str (layAll qs)) ∧ Ext [] w5 w' := fun w5 h => lay_any a' len' cap' qs (hRw'.keep h (by simp)) (by omega) (fun p hp => by have := hqs p hp; omega)
          clear hpl hql hX hY hRw hRw' hR hR' ho' hx' hob hps hqs hv' hbA hbB
          go_region_with
            (first
              | ((try go_at_call 22); (with_reducible refine hcA.mono ?_); rintro e w5 ⟨v1, rfl, ho1, hxA, hvA⟩; have hE1 : Ext [] wr w5 := hE0.trans hxA (fun x hx => .inr (hvb x hx)); have hv1 : ∀ k ∈ vblocks v1, wr.heap.size ≤ k := (fun k hk => (hvA k hk).elim (fun h => hvb k h) (fun h => Nat.le_trans hE0.size h)))
              | ((try go_at_call 22); (with_reducible refine (hcB v1 _ ho1 hE1 hv1).mono ?_); rintro e w6 ⟨v2, rfl, ho2, hxB, hvB⟩; have hE2 : Ext [] wr w6 := hE1.trans hxB (fun x hx => .inr (hv1 x hx)); have hcv := ho2.str)
              | ((try go_at_call 26); (with_reducible refine (hl1 _ hE2).mono ?_); rintro e w7 ⟨rfl, hxC⟩; have hE3 : Ext [] wr w7 := hE2.then0 hxC; have hcv2 := (ho2.keep hxC (by simp)).str)
              | ((try go_at_call 26); (with_reducible refine (hl2 _ hE3).mono ?_); rintro e w8 ⟨rfl, hxD⟩; have hE4 : Ext [] wr w8 := hE3.then0 hxD; have hcv3 := (ho2.keep (hxC.then0 hxD) (by simp)).str))
          all_goals (go_wp2; go_ret; exact ⟨rfl, hxw.then0 (by assumption)⟩)
end Go.Proofs.Ytoeccimbechfeaa
