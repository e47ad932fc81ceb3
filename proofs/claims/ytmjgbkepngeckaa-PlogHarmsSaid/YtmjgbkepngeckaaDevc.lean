/- maps.Clone at the device's maps; Crash. -/
import Derived.Test.YtmjgbkepngeckaaDevb
import Derived.Test.YtmjgbkepngeckaaHeld
import Derived.Laws.Externs
import Derived.IntWalk
namespace Go.Proofs.Ytmjgbkepngeckaa
open Go.RowKit
set_option linter.unusedVariables false

theorem map_eq_nil {P : Program} (w : World) (t k e : TypeId) (p : Option Nat) (h : P.underlying t = some (.map k e)) : (binOp .eql t (.map p) (.map none)).run P w = .ok (.bool p.isNone) w := by
  have h0 : ∀ d, (Op.equalIn (d + 1) t (.map p) (.map none)).run P w = .ok p.isNone w := by intro d; cases p <;> simp [Op.equalIn, run_underlying h]
  simp only [binOp]
  simp [show Op.equal t (.map p) (.map none) = Op.equalIn (9999 + 1) t (.map p) (.map none) from rfl, h0 9999]
theorem map_assert {P : Program} (w : World) (t xT k e : TypeId) (v : Value) (h : P.underlying t = some (.map k e)) : (Instr.typeAssert (.iface t v) xT t false).run P w = .ok v w := by
  simp [Instr.typeAssert, run_underlying h, go_sem, Result.andThen]

theorem clones_any (m : Nat) (z : Value) (g : Int → Value) (w : World) (h : MapV w m z g) :
    Calls Try.prog 45 #[.map (some m)] w fun e w' => e = .returned (.map (some w.heap.size)) ∧ MapV w' w.heap.size z g ∧ Ext [] w w' := by
  obtain ⟨w1, hr, hm, hx⟩ := h.clone (P := Try.prog) 91
  have ha : ∀ W v xT, (Instr.typeAssert (.iface 91 v) xT 91 false).run Try.prog W = .ok v W := fun W v xT => map_assert W 91 xT _ _ v Try.underlying91
  have hq := map_eq_nil (P := Try.prog) w 91 _ _ (some m) Try.underlying91
  clear h
  go_enter Try.func45, Try.ntmps45
  go_wp2
  rw [run_callFunc_extern Try.func58 (by kernel_rfl) (by kernel_rfl) (by kernel_rfl) (e := Extern.MapsClone.clone) (by kernel_rfl), hr]
  simp only [Result.andThen]
  rw [Oper.upon_value]
  clear hr hq
  go_wp2
  go_ret
  exact ⟨rfl, hm, hx⟩
theorem cloneb_any (m : Nat) (z : Value) (g : Int → Value) (w : World) (h : MapV w m z g) :
    Calls Try.prog 46 #[.map (some m)] w fun e w' => e = .returned (.map (some w.heap.size)) ∧ MapV w' w.heap.size z g ∧ Ext [] w w' := by
  obtain ⟨w1, hr, hm, hx⟩ := h.clone (P := Try.prog) 84
  have ha : ∀ W v xT, (Instr.typeAssert (.iface 84 v) xT 84 false).run Try.prog W = .ok v W := fun W v xT => map_assert W 84 xT _ _ v Try.underlying84
  have hq := map_eq_nil (P := Try.prog) w 84 _ _ (some m) Try.underlying84
  clear h
  go_enter Try.func46, Try.ntmps46
  go_wp2
  rw [run_callFunc_extern Try.func58 (by kernel_rfl) (by kernel_rfl) (by kernel_rfl) (e := Extern.MapsClone.clone) (by kernel_rfl), hr]
  simp only [Result.andThen]
  rw [Oper.upon_value]
  clear hr hq
  go_wp2
  go_ret
  exact ⟨rfl, hm, hx⟩

theorem Ext.lift {F : List Nat} {a b : World} (h : Ext F a b) (G : List Nat) : Ext (F ++ G) a b := h.mono (fun x hx => .inl (by simp [hx]))

/-- A device of a call's own. -/
def DevNew (w : World) (D : Dv) (e : Ending) (w' : World) : Prop :=
  ∃ b F, e = .returned (.pointer (some ⟨b, 0, none⟩)) ∧ DevAt w' b F D ∧ (∀ k ∈ F, w.heap.size ≤ k) ∧ Ext [] w w'

set_option maxHeartbeats 1600000 in
theorem crash_any (b : Nat) (F : List Nat) (D : Dv) (a : Option Addr) (len cap : Nat) (fs : List Int) (w : World) (h : DevAt w b F D) (hok : DvOk D) (hR : Rd w 1 (.slice a len cap) len (fs.map (Value.int .i64))) :
    Calls Try.prog 24 #[.pointer (some ⟨b, 0, none⟩), .slice a len cap] w (DevNew w (crashD fs D)) := by
  obtain ⟨m1, m3, m4, sv, hi, hb, h1, h3, h4, hs⟩ := h
  have hc := hi.c
  have c0 := hc.1
  have hs0 := hok.size0
  go_enter Try.func24, Try.ntmps24
  go_wp2_with fail
  refine (new_any D.size w).mono ?_
  rintro e w1 ⟨rfl, hn, hx, hsz⟩
  have hi1 := hi.keep0 hx
  obtain ⟨B, hB⟩ : ∃ B, B = w.heap.size + 3 := ⟨_, rfl⟩
  obtain ⟨M1, hM1⟩ : ∃ B, B = w.heap.size := ⟨_, rfl⟩
  obtain ⟨M3, hM3⟩ : ∃ B, B = w.heap.size + 1 := ⟨_, rfl⟩
  obtain ⟨M4, hM4⟩ : ∃ B, B = w.heap.size + 2 := ⟨_, rfl⟩
  have hbB : b ≠ B := by have := hi.blk.lt; omega
  have h1B : m1 ≠ B := by have := hi.safe.lt; omega
  have h3B : m3 ≠ B := by have := hi.lost.lt; omega
  have h4B : m4 ≠ B := by have := hi.hurt.lt; omega
  have hsB : ∀ k ∈ vblocks sv, k ≠ B := fun k hk => by have := hi.slt k hk; omega
  have HB : Hid (w.heap.size ≤ B ∧ w1.heap.size = B + 1) := ⟨by omega, by omega⟩
  rw [← hB, ← hM3, ← hM4, ← hM1] at hn
  rw [← hB]
  clear hB hM1 hM3 hM4 hsz
  have q0 := hn.blk.c 1
  have q1 := hn.blk.c 3
  have q2 := hn.blk.c 4
  have g1 := hn.blk.f 1
  have g3 := hn.blk.f 3
  have g4 := hn.blk.f 4
  simp only [List.getElem?_cons_zero, List.getElem?_cons_succ] at q0 q1 q2
  have hP : ∀ w', Ext [B] w1 w' → (Ext [B] w1 w' ∧ w'.cell? ⟨b, 1, none⟩ = some (.map (some m1)) ∧ w'.cell? ⟨b, 3, none⟩ = some (.map (some m3)) ∧ w'.cell? ⟨b, 4, none⟩ = some (.map (some m4))) := fun w' hx' =>
    ⟨hx', hx'.cell (p := ⟨b, 1, none⟩) (not_mem_one hbB) hi1.c.2.1, hx'.cell (p := ⟨b, 3, none⟩) (not_mem_one hbB) hi1.c.2.2.2.1, hx'.cell (p := ⟨b, 4, none⟩) (not_mem_one hbB) hi1.c.2.2.2.2.1⟩
  have hQ1 : ∀ w', Ext [B] w1 w' → MapV w' m1 (str []) (fun k => str (D.safe k)) := fun w' hx' => hi1.safe.keep hx' (not_mem_one h1B)
  have hQ3 : ∀ w', Ext [B] w1 w' → MapV w' m3 (.bool false) (fun k => .bool (D.lost k)) := fun w' hx' => hi1.lost.keep hx' (not_mem_one h3B)
  have hQ4 : ∀ w', Ext [B] w1 w' → MapV w' m4 (.bool false) (fun k => .bool (D.hurt k)) := fun w' hx' => hi1.hurt.keep hx' (not_mem_one h4B)
  have hE : Ext [B] w1 w1 := Ext.refl _ _
  have hE0 : Ext [] w1 w1 := Ext.refl _ _
  have hK : ∀ w', Ext [] w1 w' → Ext [B] w1 w' ∧ w'.cell? ⟨B, 1, none⟩ = some (.map (some M1)) ∧ w'.cell? ⟨B, 3, none⟩ = some (.map (some M3)) ∧ w'.cell? ⟨B, 4, none⟩ = some (.map (some M4)) ∧ w'.frozen? ⟨B, 1, none⟩ = false ∧ w'.frozen? ⟨B, 3, none⟩ = false ∧ w'.frozen? ⟨B, 4, none⟩ = false := fun w' hx' =>
    ⟨hx'.mono (by simp), hx'.cell (by simp) q0, hx'.cell (by simp) q1, hx'.cell (by simp) q2, (hx'.frozen (by simp) hn.blk.lt).trans g1, (hx'.frozen (by simp) hn.blk.lt).trans g3, (hx'.frozen (by simp) hn.blk.lt).trans g4⟩
  clear c0 hc
  go_wp2_with fail
  go_region_held3 (fun w' => Ext [B] w1 w' ∧ w'.cell? ⟨b, 1, none⟩ = some (.map (some m1)) ∧ w'.cell? ⟨b, 3, none⟩ = some (.map (some m3)) ∧ w'.cell? ⟨b, 4, none⟩ = some (.map (some m4))) (first | exact hP _ (by assumption) | (go_split_ands; apply hP; (repeat' (first | assumption | exact Ext.refl _ _ | apply Ext.drew | (refine Ext.alloc ?_ _) | (refine Ext.setCell ?_ (by first | (right; simp; done) | (right; have := hx.size; simp at this ⊢; omega) | (left; simp; done)) _) | (refine Ext.then0 ?_ hx) | (refine Ext.trans ?_ hx (by simp)))); done))
    (first
      | ((try go_at_call 45); (with_reducible refine (clones_any m1 _ _ _ (hQ1 _ hE.drew)).mono ?_); rintro e w2 ⟨rfl, hmA, hxA⟩; have hA : Ext [] w1 w2 := (hE0.drew.then0 hxA); obtain ⟨yA, -, -, -, -, -, -⟩ := hK w2 hA)
      | ((try go_at_call 46); (with_reducible refine (cloneb_any m3 _ _ _ (hQ3 _ (by assumption))).mono ?_); rintro e w3 ⟨rfl, hmB, hxB⟩; have hB : Ext [] w1 w3 := (Ext.then0 (by assumption) hxB); obtain ⟨yB, -, -, -, -, -, -⟩ := hK w3 hB)
      | ((try go_at_call 46); (with_reducible refine (cloneb_any m4 _ _ _ (hQ4 _ (by assumption))).mono ?_); rintro e w4 ⟨rfl, hmC, hx⟩; have hC : Ext [] w1 w4 := (Ext.then0 (by assumption) hx); obtain ⟨yC, k1, k3, k4, l1, l3, l4⟩ := hK w4 hC))
  have hB1 := HB.out.2
  have s2 := hA.size
  have s3 := hB.size
  have s4 := hC.size
  have hmA' : MapV w2 w1.heap.size (str []) (fun k => str (D.safe k)) := hmA
  have t2 := hmA'.lt
  have t3 := hmB.lt
  have t4 := hmC.lt
  have hbk := ((hn.blk.keep hC (by simp)).set 1 (.map (some w1.heap.size))).set 3 (.map (some w2.heap.size)) |>.set 4 (.map (some w3.heap.size))
  obtain ⟨W, hW⟩ : ∃ W, W = ((w4.setCell ⟨B, 1, none⟩ (.map (some w1.heap.size))).setCell ⟨B, 3, none⟩ (.map (some w2.heap.size))).setCell ⟨B, 4, none⟩ (.map (some w3.heap.size)) := ⟨_, rfl⟩
  have hx4 : Ext [B] w4 W := by rw [hW]; exact ((Ext.one _).trans (Ext.one _) (by simp)).trans (Ext.one _) (by simp)
  rw [← hW] at hbk ⊢
  have hin : DevIn W B w1.heap.size w2.heap.size w3.heap.size (.slice none 0 0) (bareD D) :=
    ⟨hbk, (hmA'.keep (hxB.then0 hx) (by simp)).keep hx4 (not_mem_one (by omega)), (hmB.keep hx (by simp)).keep hx4 (not_mem_one (by omega)), hmC.keep hx4 (not_mem_one (by omega)), Own.nil _ _ _, by omega, by omega, by omega, by omega, by omega, by omega, by simp [vblocks]⟩
  have hxW : Ext [B] w1 W := yC.trans hx4 (by simp)
  obtain ⟨a2, cap2, rfl⟩ := hi1.since.rd.isSlice
  have c2 := hxW.cell (p := ⟨b, 2, none⟩) (not_mem_one hbB) hi1.c.2.2.1
  have hlm : D.since.length ≤ 9223372036854775807 := by have := hi1.since.rd.len; unfold maxLen at this; omega
  have hfl : fs.length = len ∧ len ≤ 9223372036854775807 := by have := hR.len; unfold maxLen at this; simp at this; omega
  obtain ⟨C1, hC1⟩ : ∃ x, x = w1.heap.size := ⟨_, rfl⟩
  obtain ⟨C2, hC2⟩ : ∃ x, x = w2.heap.size := ⟨_, rfl⟩
  obtain ⟨C3, hC3⟩ : ∃ x, x = w3.heap.size := ⟨_, rfl⟩
  have HN : Hid (w1.heap.size ≤ C1 ∧ w1.heap.size ≤ C2 ∧ w1.heap.size ≤ C3) := ⟨by omega, by omega, by omega⟩
  rw [← hC1, ← hC2, ← hC3] at hin
  have hxw1 : Ext [] w w1 := by assumption
  have hwB := HB.out.1
  have hdl : ∀ c ∈ D.since, c.2.length ≤ 512 := hok.since
  clear hmA hmB hmC hmA' t2 t3 t4 s2 s3 s4 hbk hA hB hC yA yB yC k1 k3 k4 l1 l3 l4 hxA hxB hx hK hP hQ1 hQ3 hQ4 hE hE0 q0 q1 q2 g1 g3 g4 hW hx4 hB1 hC1 hC2 hC3 hi1 hn hok
  go_wp2
  go_loopw [46] (fun i wr => ∃ k : Nat, k ≤ D.since.length ∧ i = .int .i64 k ∧ DevIn wr B C1 C2 C3 (.slice none 0 0) (fatesD fs 0 (D.since.take k) (bareD D)) ∧ Ext [B] w1 wr) (fun i _ => D.since.length - (intOf i).toNat)
  case atStart => exact ⟨0, by omega, rfl, hin, hxW⟩
  case round =>
    clear hin hxW c2
    obtain ⟨k, hk, rfl, hin, hxr⟩ := hrel
    by_cases hlt : k < D.since.length
    · obtain ⟨g, off, rfl, hgw, hc⟩ := hi.since.rd.view (by omega)
      have hg2 := chgs_get D.since k hlt
      have c0 := hxr.cell (p := ⟨g, off + k * 2, none⟩) (not_mem_one (by show g ≠ B; omega)) (hxw1.cell (by simp) (hc _ _ hg2.1))
      have c1 := hxr.cell (p := ⟨g, off + (k * 2 + 1), none⟩) (not_mem_one (by show g ≠ B; omega)) (hxw1.cell (by simp) (hc _ _ hg2.2))
      have HP : Hid (fatesD fs 0 (D.since.take (k + 1)) (bareD D) = fateD (fs.getD k 0) D.since[k] (fatesD fs 0 (D.since.take k) (bareD D))) := by
        show _ = _
        rw [List.take_succ_eq_append_getElem hlt, fatesD_snoc, List.length_take, Nat.zero_add, Nat.min_eq_left (by omega)]
      have hcl := hdl D.since[k] (List.getElem_mem _)
      obtain ⟨E, hEE⟩ : ∃ E, E = fatesD fs 0 (D.since.take k) (bareD D) := ⟨_, rfl⟩
      rw [← hEE] at HP hin
      obtain ⟨c, hcc⟩ : ∃ c, c = D.since[k] := ⟨_, rfl⟩
      rw [← hcc] at c0 c1 HP hcl
      obtain ⟨ck, cs⟩ := c
      simp only at c0 c1 HP hcl
      rw [← Nat.add_assoc] at c1
      have hks : k < 9223372036854775807 := by omega
      clear hcc hc hg2 hEE hgw
      have hVB : wr.heap.size ≠ B := by have := hin.blk.lt; omega
      have hVC : wr.heap.size ≠ C1 ∧ wr.heap.size ≠ C3 := ⟨by have := hin.safe.lt; omega, by have := hin.hurt.lt; omega⟩
      have hfin : ∀ wz, DevIn wz B C1 C2 C3 (.slice none 0 0) (fatesD fs 0 (D.since.take (k + 1)) (bareD D)) → Ext [B] w1 wz → True := fun _ _ _ => trivial
      clear hfin
      by_cases hkf : k < len
      · obtain ⟨g3, off3, rfl, hg3w, hc3⟩ := hR.view (by omega)
        have cf := hxr.cell (p := ⟨g3, off3 + k, none⟩) (not_mem_one (by show g3 ≠ B; omega)) (hxw1.cell (by simp) (hc3 k (.int .i64 (fs.getD k 0)) (by rw [List.getElem?_map, List.getElem?_eq_getElem (by omega)]; simp [List.getD, show k < fs.length by omega])))
        obtain ⟨f, hff⟩ : ∃ f, f = fs.getD k 0 := ⟨_, rfl⟩
        rw [← hff] at cf HP
        have hg3r : g3 < wr.heap.size := by have := hxr.size; have := hxw1.size; omega
        have hg3n : g3 ≠ wr.heap.size := by omega
        clear hff hc3
        by_cases hf1 : f = 1
        · have HF : Hid (fateD f (ck, cs) E = putD ck cs E) := by show _ = _; rw [fateD, if_pos hf1]
          rw [hf1] at cf
          clear hf1
          go_wp2_with fail
          refine (put_any B C1 C2 C3 _ E ck cs _ (hin.keep0 ((Ext.refl [] _).alloc _))).mono ?_
          rintro e w5 ⟨rfl, hi5, hx5⟩
          have hx6 : Ext [B] w1 w5 := (hxr.alloc _).trans hx5 (fun x hx' => by simp only [List.mem_cons, List.not_mem_nil, or_false] at hx'; have := HN.out; rcases hx' with rfl | rfl <;> exact .inr (by omega))
          clear c0 c1 cf hin hxr hx5
          go_wp2
          go_roundw
          case rel => exact ⟨k + 1, by omega, by go_num, by rw [HP.out, HF.out]; exact hi5, hx6⟩
          case measure => simp [intOf]; omega
        · have e1 : (f == 1) = false := by simp [hf1]
          by_cases hf2 : f = 2
          · have HF : Hid (fateD f (ck, cs) E = { putD ck (cs.take (cs.length / 2)) E with hurt := setF E.hurt ck true }) := by show _ = _; rw [fateD, if_neg hf1, if_pos hf2]
            have HF2 : Hid ({ putD ck (cs.take (cs.length / 2)) E with hurt := setF E.hurt ck true } = { putD ck (cs.take (cs.length / 2)) E with hurt := setF (putD ck (cs.take (cs.length / 2)) E).hurt ck true }) := by
              show Dv.mk _ _ _ _ _ _ _ = Dv.mk _ _ _ _ _ _ _
              congr 1
              funext x
              unfold putD setF; dsimp only; split <;> rfl
            have hex : ByteArray.extract ⟨cs.toArray⟩ 0 (cs.length / 2) = ⟨(cs.take (cs.length / 2)).toArray⟩ := take_extract cs _ (by omega)
            have hex2 : ByteArray.extract ⟨cs.toArray⟩ 0 (((cs.length : Int) / 2).toNat) = ⟨(cs.take (cs.length / 2)).toArray⟩ := by
              rw [show ((cs.length : Int) / 2).toNat = cs.length / 2 by omega]; exact hex
            rw [hf2] at cf
            clear hf1 hf2 e1
            go_wp2_with fail
            obtain ⟨wv, hwv⟩ : ∃ W, W = wr.alloc (.cells #[.int .i64 ck, .string ⟨cs.toArray⟩] 98) := ⟨_, rfl⟩
            have hq : Blk wv wr.heap.size 98 [.int .i64 ck, str cs] := by rw [hwv]; exact Blk.new wr _ #[.int .i64 ck, str cs]
            have hi6 : DevIn wv B C1 C2 C3 (.slice none 0 0) E := by rw [hwv]; exact hin.keep0 ((Ext.refl [] _).alloc _)
            have hx6 : Ext [B] w1 wv := by rw [hwv]; exact hxr.alloc _
            rw [← hwv]
            obtain ⟨V, hV⟩ : ∃ V, V = wr.heap.size := ⟨_, rfl⟩
            rw [← hV] at hq hVB hVC ⊢
            have hVlt := hq.lt
            have hP : ∀ w', Ext [C1, C3] wv w' → (Ext [C1, C3] wv w' ∧ w'.cell? ⟨V, 0, none⟩ = some (.int .i64 ck) ∧ w'.cell? ⟨V, 1, none⟩ = some (str cs)) := fun w' hx' =>
              ⟨hx', (hq.keep hx' (by simp; exact hVC)).c 0, (hq.keep hx' (by simp; exact hVC)).c 1⟩
            have hE : Ext [C1, C3] wv wv := Ext.refl _ _
            have u0 : (0 : Int) ≤ (cs.length : Int) / 2 := by omega
            have u1 : (cs.length : Int) / 2 ≤ (cs.length : Int) := by omega
            have u2 : IntKind.i64.wrap ((cs.length : Int) / 2) = (cs.length : Int) / 2 := IntWalk.i64_in _ ⟨by omega, by omega⟩
            have u3 : Int.tdiv (cs.length : Int) 2 = (cs.length : Int) / 2 := Int.tdiv_eq_ediv_of_nonneg (by omega)
            have hi7 : DevIn wv.drew B C1 C2 C3 (.slice none 0 0) E := hi6.keep0 ((Ext.refl [] _).drew)
            clear hwv hV hin hxr c0 c1 cf hg3r hg3n
            go_region_held3 (fun w' => Ext [C1, C3] wv w' ∧ w'.cell? ⟨V, 0, none⟩ = some (.int .i64 ck) ∧ w'.cell? ⟨V, 1, none⟩ = some (str cs)) (first | exact hP _ (by assumption) | (go_split_ands; apply hP; (repeat' (first | assumption | exact Ext.refl _ _ | apply Ext.drew | (refine Ext.alloc ?_ _) | (refine Ext.setCell ?_ (by first | (right; simp; done) | (right; have := hx.size; simp at this ⊢; omega) | (left; simp; done)) _) | (refine Ext.then0 ?_ hx) | (refine Ext.trans ?_ hx (by simp)))); done))
              (((try go_at_call 47); (with_reducible refine (put_any B C1 C2 C3 _ E ck (cs.take (cs.length / 2)) _ hi7).mono ?_); rintro e w5 ⟨rfl, hi5, hx⟩; have hy : Ext [C1, C3] wv w5 := (hE.drew.trans hx (by simp))))
            clear u0 u1 u2 u3 hP hex hex2 hi7 hi6
            have hq5 := hq.keep hy (by simp; exact hVC)
            obtain ⟨w9, hrun, hm9, hx9⟩ := (hi5.hurt.keep ((Ext.refl [] _).drew) (by simp)).update (P := Try.prog) (t := 84) Try.underlying84 Try.underlying3 ck (.bool true)
            have hi9 := hi5.setHurt ck true hm9 ((Ext.refl _ _).drew.trans hx9 (by simp))
            have hP : ∀ w', Ext [C3] w5 w' → (Ext [C3] w5 w' ∧ w'.cell? ⟨V, 0, none⟩ = some (.int .i64 ck) ∧ w'.cell? ⟨B, 4, none⟩ = some (.map (some C3))) := fun w' hx' =>
              ⟨hx', (hq5.keep hx' (by simp; exact hVC.2)).c 0, hx'.cell (p := ⟨B, 4, none⟩) (not_mem_one hi5.n4.symm) hi5.c.2.2.2.2.1⟩
            have hE5 : Ext [C3] w5 w5 := Ext.refl _ _
            have hE9 : Ext [C3] w5 w9 := (Ext.refl _ _).drew.trans hx9 (by simp)
            clear hq5 hq hE hm9
            go_wp2_with fail
            go_region_held3 (fun w' => Ext [C3] w5 w' ∧ w'.cell? ⟨V, 0, none⟩ = some (.int .i64 ck) ∧ w'.cell? ⟨B, 4, none⟩ = some (.map (some C3))) (first | exact hP _ (by assumption) | (go_split_ands; apply hP; (repeat' (first | assumption | exact Ext.refl _ _ | apply Ext.drew | (refine Ext.alloc ?_ _) | (refine Ext.setCell ?_ (by first | (right; simp; done) | (right; have := hx.size; simp at this ⊢; omega) | (left; simp; done)) _) | (refine Ext.then0 ?_ hx) | (refine Ext.trans ?_ hx (by simp)))); done)) (fail)
            clear hP hrun
            have hx10 : Ext [B] w1 w9 := (hx6.trans hy (fun x hx' => by simp only [List.mem_cons, List.not_mem_nil, or_false] at hx'; have := HN.out; rcases hx' with rfl | rfl <;> exact .inr (by omega))).trans hE9 (fun x hx' => by simp only [List.mem_cons, List.not_mem_nil, or_false] at hx'; have := HN.out; subst hx'; exact .inr (by omega))
            go_wp2
            go_roundw
            case rel => exact ⟨k + 1, by omega, by go_num, by rw [HP.out, HF.out, HF2.out]; exact hi9, hx10⟩
            case measure => simp [intOf]; omega
          · have e2 : (f == 2) = false := by simp [hf2]
            have HF : Hid (fateD f (ck, cs) E = E) := by show _ = _; rw [fateD, if_neg hf1, if_neg hf2]
            clear hf1 hf2
            go_wp2
            go_roundw
            case rel => exact ⟨k + 1, by omega, by go_num, by rw [HP.out, HF.out]; exact hin.keep0 ((Ext.refl [] _).alloc _), hxr.alloc _⟩
            case measure => simp [intOf]; omega
      · have HF : Hid (fateD (fs.getD k 0) (ck, cs) E = E) := by show _ = _; rw [List.getD, List.getElem?_eq_none (by omega)]; rfl
        have hkf2 : len ≤ k := by omega
        clear hkf
        go_wp2
        go_roundw
        case rel => exact ⟨k + 1, by omega, by go_num, by rw [HP.out, HF.out]; exact hin.keep0 ((Ext.refl [] _).alloc _), hxr.alloc _⟩
        case measure => simp [intOf]; omega
    · obtain rfl : k = D.since.length := by omega
      rw [List.take_of_length_le (Nat.le_refl _)] at hin
      go_wp2
      go_ret
      refine ⟨B, [B, C1, C2, C3], rfl, ⟨C1, C2, C3, _, hin, by simp, by simp, by simp, by simp, by simp [vblocks]⟩, ?_, hxw1.trans hxr (by simpa using hwB)⟩
      intro x hx'
      have := HN.out
      have := hxw1.size
      simp only [List.mem_cons, List.not_mem_nil, or_false] at hx'
      rcases hx' with rfl | rfl | rfl | rfl <;> omega
end Go.Proofs.Ytmjgbkepngeckaa
