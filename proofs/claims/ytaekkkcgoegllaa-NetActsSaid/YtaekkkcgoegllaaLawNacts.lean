/- NetActs: the walk. -/
import Derived.Test.YtaekkkcgoegllaaNacts
import Derived.Test.YtaekkkcgoegllaaStep
import Derived.Test.YtaekkkcgoegllaaRegInvG
namespace Go.Proofs.Ytaekkkcgoegllaa
open Go.RowKit
set_option linter.unusedVariables false
set_option linter.unusedSimpArgs false
attribute [local go_sem high] run_max2 run_min2

theorem el_item : Elem Try.prog 46 51 (.agg #[.int .i64 0, .int .i64 0]) 2 16 := Elem.mk' Try.underlying46 rfl (by kernel_rfl)
theorem Rd.dropn {w : World} {size q off c n : Nat} {xs : List Value} (h : Rd w size (.slice (some ⟨q, off, none⟩) n c) n xs) (m : Nat) (hm : m ≤ n) : Rd w size (.slice (some ⟨q, off + m * size, none⟩) (n - m) (c - m)) (n - m) (xs.drop (m * size)) := by
  obtain ⟨h1, a', cap', hv, h2, h3, h4, h5⟩ := h
  simp only [Value.slice.injEq, true_and] at hv
  obtain ⟨rfl, rfl⟩ := hv
  refine ⟨by rw [List.length_drop, h1, Nat.sub_mul], _, _, rfl, by omega, by omega, (fun h => by cases h), fun g hg j u hu => ?_⟩
  cases hg
  rw [List.getElem?_drop] at hu
  have := h5 _ rfl _ _ hu
  rw [Addr.add_lit] at this ⊢
  rw [Nat.add_assoc]
  exact this
set_option maxRecDepth 100000 in
set_option maxHeartbeats 3200000 in
theorem nsend_nil (d : Int) (v : Value) (w : World) : Calls Try.prog 13 #[.pointer none, .int .i64 d, v] w fun e w' => e = .returned (.tuple #[]) ∧ w = w' := by
  go_enter Try.func13, Try.ntmps13
  go_wp2
  refine bodyPost_ret (results_none rfl _ _ _) rfl ?_
  exact ⟨rfl, rfl⟩
theorem op_undef {P : Program} {ops : Array Oper} {Q : Exit → Act → World → Prop} {base : Array Value} {D : List Nat} {g : Nat → Value} {o : Oper} {j d : Nat} {c : Bool} {w : World} {K : Act → World → Prop} (hg : o.guard = some (j, c)) (hd : (ops[j]?).bind (·.dst) = some d) (hD : D.contains d = true) (hb : decide (d < base.size) = true) (hv : g d = undef)
    (h : K ((mkAct base D g).put o.dst undef) w) : OpOb P ops Q o (mkAct base D g) w K := by
  refine .inr ⟨?_, h⟩
  have hb' : d < base.size := by simpa using hb
  have hD' : d ∈ D := by simpa using hD
  have ht : (mkAct base D g).tmps[d]? = some undef := by simp [mkAct, hb', hD', hv]
  have hy : yielded ops (mkAct base D g).tmps j = none := by
    unfold yielded
    rw [hd]
    simp only [Option.bind_some, ht]
    rfl
  simp [Region.wanted, hg, hy]
def na24lateΦ (G : Nat) (D now : Int) (n : Nat) (yy : Value) (w : World) : Prop :=
  match n with
  | 0 => yy = .pointer (some ⟨G, 0, none⟩)
  | 1 => yy = .int .i64 D
  | 2 => yy = .int .i64 now
  | 3 => yy = .bool false
  | 4 => yy = .bool false
  | 7 => yy = undef
  | 17 => yy = .bool false
  | _ => True
theorem na24lateΦ_keep (G : Nat) (D now : Int) (n0 : Nat) (yy : Value) (w w' : World) (h : na24lateΦ G D now n0 yy w) (hx : Ext [] w w') : na24lateΦ G D now n0 yy w' := by
  unfold na24lateΦ at h ⊢
  split at h <;> exact h
def na24firstΦ (G : Nat) (D now : Int) (n : Nat) (yy : Value) (w : World) : Prop :=
  match n with
  | 0 => yy = .pointer (some ⟨G, 0, none⟩)
  | 1 => yy = .int .i64 D
  | 2 => yy = .int .i64 now
  | 3 => yy = .bool true
  | 4 => yy = .bool true
  | 5 => yy = .int .i64 (-1)
  | 6 => yy = .bool true
  | 7 => yy = .bool true
  | 16 => yy = .bool true
  | 17 => yy = .bool true
  | _ => True
theorem na24firstΦ_keep (G : Nat) (D now : Int) (n0 : Nat) (yy : Value) (w w' : World) (h : na24firstΦ G D now n0 yy w) (hx : Ext [] w w') : na24firstΦ G D now n0 yy w' := by
  unfold na24firstΦ at h ⊢
  split at h <;> exact h
def na24lessΦ (G q off nn c p : Nat) (D E now : Int) (n : Nat) (yy : Value) (w : World) : Prop :=
  match n with
  | 0 => yy = .pointer (some ⟨G, 0, none⟩)
  | 1 => yy = .int .i64 D
  | 2 => yy = .int .i64 now
  | 3 => yy = .bool true
  | 4 => yy = .bool true
  | 5 => yy = .int .i64 (p : Int)
  | 6 => yy = .bool false
  | 7 => yy = .bool false
  | 8 => yy = .pointer (some ⟨G, 0, none⟩)
  | 9 => yy = .int .i64 D
  | 10 => yy = .slice (some ⟨q, off, none⟩) nn c
  | 11 => yy = .int .i64 (p : Int)
  | 12 => yy = .pointer (some ⟨q, off + p * 2, none⟩)
  | 13 => yy = .pointer (some ⟨q, off + p * 2, none⟩)
  | 14 => yy = .int .i64 E
  | 15 => yy = .bool true
  | 16 => yy = .bool true
  | 17 => yy = .bool true
  | _ => True
theorem na24lessΦ_keep (G q off nn c p : Nat) (D E now : Int) (n0 : Nat) (yy : Value) (w w' : World) (h : na24lessΦ G q off nn c p D E now n0 yy w) (hx : Ext [] w w') : na24lessΦ G q off nn c p D E now n0 yy w' := by
  unfold na24lessΦ at h ⊢
  split at h <;> exact h
def na24notΦ (G q off nn c p : Nat) (D E now : Int) (n : Nat) (yy : Value) (w : World) : Prop :=
  match n with
  | 0 => yy = .pointer (some ⟨G, 0, none⟩)
  | 1 => yy = .int .i64 D
  | 2 => yy = .int .i64 now
  | 3 => yy = .bool true
  | 4 => yy = .bool true
  | 5 => yy = .int .i64 (p : Int)
  | 6 => yy = .bool false
  | 7 => yy = .bool false
  | 8 => yy = .pointer (some ⟨G, 0, none⟩)
  | 9 => yy = .int .i64 D
  | 10 => yy = .slice (some ⟨q, off, none⟩) nn c
  | 11 => yy = .int .i64 (p : Int)
  | 12 => yy = .pointer (some ⟨q, off + p * 2, none⟩)
  | 13 => yy = .pointer (some ⟨q, off + p * 2, none⟩)
  | 14 => yy = .int .i64 E
  | 15 => yy = .bool false
  | 16 => yy = .bool false
  | 17 => yy = .bool false
  | _ => True
theorem na24notΦ_keep (G q off nn c p : Nat) (D E now : Int) (n0 : Nat) (yy : Value) (w w' : World) (h : na24notΦ G q off nn c p D E now n0 yy w) (hx : Ext [] w w') : na24notΦ G q off nn c p D E now n0 yy w' := by
  unfold na24notΦ at h ⊢
  split at h <;> exact h
def na28noneΦ (_ : Unit) (n : Nat) (yy : Value) (w : World) : Prop :=
  match n with
  | 0 => yy = .bool false
  | 1 => yy = .int .i64 (-1)
  | 2 => yy = .bool false
  | 3 => yy = .bool false
  | 4 => yy = .bool false
  | 5 => yy = .bool false
  | 6 => yy = .bool false
  | 15 => yy = .bool false
  | 16 => yy = .bool false
  | _ => True
theorem na28noneΦ_keep (u0 : Unit) (n0 : Nat) (yy : Value) (w w' : World) (h : na28noneΦ u0 n0 yy w) (hx : Ext [] w w') : na28noneΦ u0 n0 yy w' := by
  unfold na28noneΦ at h ⊢
  split at h <;> exact h
def na28someΦ (M q off nn c p : Nat) (I : Int) (n : Nat) (yy : Value) (w : World) : Prop :=
  match n with
  | 0 => yy = .bool true
  | 1 => yy = .int .i64 (p : Int)
  | 2 => yy = .bool true
  | 3 => yy = .bool false
  | 4 => yy = .bool false
  | 5 => yy = .bool true
  | 6 => yy = .bool true
  | 7 => yy = .pointer (some ⟨M, 4, none⟩)
  | 8 => yy = .int .i64 I
  | 9 => yy = .slice (some ⟨q, off, none⟩) nn c
  | 10 => yy = .int .i64 (p : Int)
  | 11 => yy = .pointer (some ⟨q, off + p * 2, none⟩)
  | 12 => yy = .pointer (some ⟨q, off + p * 2 + 1, none⟩)
  | 13 => yy = .int .i64 I
  | 14 => yy = .bool false
  | 15 => yy = .bool false
  | 16 => yy = .bool false
  | _ => True
theorem na28someΦ_keep (M q off nn c p : Nat) (I : Int) (n0 : Nat) (yy : Value) (w w' : World) (h : na28someΦ M q off nn c p I n0 yy w) (hx : Ext [] w w') : na28someΦ M q off nn c p I n0 yy w' := by
  unfold na28someΦ at h ⊢
  split at h <;> exact h
theorem item_at {W : World} {av : Option Addr} {cv n : Nat} {A : List Lt} (h : Own W 51 2 (.slice av n cv) n (itms A)) (i : Nat) (hi : i < A.length) : ∃ q off, av = some ⟨q, off, none⟩ ∧ ∀ w', Ext [] W w' → w'.cell? ⟨q, off + i * 2, none⟩ = some (.int .i64 A[i].due) ∧ w'.cell? ⟨q, off + i * 2 + 1, none⟩ = some (.int .i64 A[i].m.index) := by
  have hn : n = A.length := by have := h.1; rw [itms_len] at this; omega
  obtain ⟨q, off, rfl, _, hc⟩ := h.rd.view (by omega)
  refine ⟨q, off, rfl, fun w' hx => ⟨?_, ?_⟩⟩
  · exact hx.cell (by simp) (hc (i * 2) _ (by rw [show i * 2 = i * 2 + 0 from rfl, itms, flatMap_get itm 2 (fun _ => rfl) A i 0 hi (by omega)]; rfl))
  · have := hc (i * 2 + 1) (.int .i64 A[i].m.index) (by rw [itms, flatMap_get itm 2 (fun _ => rfl) A i 1 hi (by omega)]; rfl)
    rw [← Nat.add_assoc] at this
    exact hx.cell (by simp) this
set_option maxRecDepth 100000 in
set_option maxHeartbeats 25600000 in
theorem nacts_any {w : World} (a : Option Addr) (len cap : Nat) (acs : List Na) (hR : Rd w 2 (.slice a len cap) len (acs.flatMap Na.cells)) (hwf : ∀ p ∈ acs, p.ok) :
    Calls Try.prog 6 #[.slice a len cap] w fun e w' => e = .returned (.bool true) ∧ Ext [] w w' := by
  have hl : acs.length = len := by have := hR.len; have h2 := flatMap_len Na.cells 2 nacells_len acs; rw [h2] at this; omega
  by_cases h200 : 200 < len
  · go_enter Try.func6, Try.ntmps6
    go_wp2_with ((go_at_call 12; (with_reducible refine (head_any _).mono ?_); rintro e w1 ⟨rfl, hx1⟩))
    go_ret
    exact ⟨rfl, hx1⟩
  · have hR0 : ∀ k, (hk : k < acs.length) → ∃ qa offa, a = some ⟨qa, offa, none⟩ ∧ ∀ wr, Ext [] w wr → wr.cell? ⟨qa, offa + k * 2, none⟩ = some (.int .i64 acs[k].k) ∧ wr.cell? ⟨qa, offa + k * 2 + 1, none⟩ = some (.int .i64 acs[k].delay) := by
      intro k hk
      obtain ⟨b, off, rfl, hbw, hc⟩ := hR.view (by omega)
      refine ⟨b, off, rfl, fun wr hx => ⟨?_, ?_⟩⟩
      · have := hc (k * 2) (.int .i64 acs[k].k) (by rw [show k * 2 = k * 2 + 0 from rfl, flatMap_get Na.cells 2 nacells_len acs k 0 (by omega) (by omega)]; rfl)
        exact hx.cell (by simp) this
      · have := hc (k * 2 + 1) (.int .i64 acs[k].delay) (by rw [flatMap_get Na.cells 2 nacells_len acs k 1 (by omega) (by omega)]; rfl)
        rw [← Nat.add_assoc] at this
        exact hx.cell (by simp) this
    have HL := Hid.of hl
    have HR := Hid.of hR0
    have HW := Hid.of hwf
    clear hR hwf hl hR0
    go_enter Try.func6, Try.ntmps6
    go_wp2_with ((go_at_call 12; (with_reducible refine (head_any _).mono ?_); rintro e w1 ⟨rfl, hx1⟩; have h0 := NetX.mk1 hx1 (Ext.refl _ _); have H0 := Hid.of (h0.add ((Ext.refl [] _).alloc (.cells #[] 51)) _ (Nat.le_refl _) (by simp)); have HO0 := Hid.of (Own.lit (w1.alloc (.cells #[.slice none 0 0, .int .i64 0, .int .i64 0] 27)) #[] 51 2 0 rfl (by unfold maxLen; omega)); rw [World.size_alloc] at H0 HO0; have hbw := hx1.size; clear hx1 h0))
    go_loopw [4, 5, 26] (fun u4 u5 u26 wr => ∃ (k : Nat) (now s : Int) (A : List Lt), u26 = .int .i64 (k : Int) ∧ k ≤ len ∧ u5 = .int .i64 now ∧ (0 ≤ now ∧ now ≤ k ∧ 0 ≤ s ∧ s ≤ k ∧ A.length ≤ k) ∧ Hid (Own wr 51 2 u4 A.length (itms A)) ∧ Hid (NetX w wr w1.heap.size now s A (vblocks u4)) ∧ Hid (∀ q ∈ vblocks u4, w.heap.size ≤ q) ∧ Hid (SeqOrd s A)) (fun _ _ u26 _ => len - (intOf u26).toNat)
    case atStart => exact ⟨0, 0, 0, [], rfl, by omega, rfl, ⟨by omega, by omega, by omega, by omega, by simp⟩, HO0.out, H0.out, fun q hq => by simp [vblocks] at hq; omega, SeqOrd.nil 0⟩
    case round =>
      obtain ⟨k, now, s, A, rfl, hk, rfl, ⟨hn0, hn1, hs0, hs1, hA1⟩, hO, hX, hV, hS⟩ := hrel
      by_cases hlt : k < len
      · have hkm : k < acs.length := by rw [HL.out]; exact hlt
        obtain ⟨qa, offa, rfl, hca⟩ := HR.out k hkm
        obtain ⟨ca0, ca1⟩ := hca wr hX.out.x
        obtain ⟨ac, hac⟩ : ∃ ac, ac = acs[k] := ⟨_, rfl⟩
        rw [← hac] at ca0 ca1
        have hok : ac.ok := by rw [hac]; exact HW.out _ (List.getElem_mem _)
        have hq := naK_eq ac
        have hK6 : naK ac < 6 := Nat.mod_lt _ (by omega)
        generalize naK ac = K at hq hK6
        clear hac hca
        obtain ⟨ak, ad⟩ := ac
        simp only at ca0 ca1 hq
        obtain ⟨W, hW⟩ : ∃ W, W = wr.alloc (.cells #[.int .i64 ak, .int .i64 ad] 48) := ⟨_, rfl⟩
        have hB : Blk W wr.heap.size 48 [.int .i64 ak, .int .i64 ad] := by rw [hW]; exact Blk.new _ _ #[.int .i64 ak, .int .i64 ad]
        have hXW : NetX w W w1.heap.size now s A (wr.heap.size :: vblocks u4) := by rw [hW]; exact hX.out.add ((Ext.refl [] wr).alloc _) _ (Nat.le_refl _) (by simp)
        have hOW : Own W 51 2 u4 A.length (itms A) := by rw [hW]; exact hO.out.alloc _
        have HWW := Hid.of hW
        have HBW := Hid.of hB
        clear hW hB
        obtain ⟨av, cv, rfl⟩ := Rd.isSlice hOW.rd
        rcases (show (K = 0 ∨ K = 1) ∨ (K = 2 ∨ K = 3) ∨ K = 4 ∨ K = 5 by omega) with hK | hK | hK | hK
        · rcases hK with hK | hK
          · have hq2 : (IntKind.u64.wrap ak).tmod 6 = 0 := by rw [hq, hK]; rfl
            clear hq hK hK6
            have cs := xsend1 hXW (by omega) ad ⟨hn0, by omega⟩ ⟨hs0, by omega⟩ (wr.heap.size + 1) (by rw [HWW.out, World.size_alloc]) (Ms.ix (k : Int))
            go_wp2_with fail
            rw [← HWW.out]
            refine cs.mono ?_
            rintro e w2 ⟨rfl, h2, f2⟩
            have d1 : w2.cell? ⟨wr.heap.size, 1, none⟩ = some (.int .i64 ad) := (f2.blk HBW.out (by simp)).c 1
            have HX2 := Hid.of (h2.mono (O' := vblocks (.slice av A.length cv)) (fun q hq => by simp [hq]))
            have HO2 := Hid.of (show Own w2 _ _ _ _ _ from by obtain ⟨F, hxF, hF⟩ := f2; exact hOW.keep hxF (fun q hq => hF q (by simp [hq])))
            clear h2 f2 hOW hXW cs ca0 ca1
            go_wp2_with (refine wpl_append (d := some 58) 51 (.agg #[.int .i64 0, .int .i64 0]) 2 16 el_item (.slice av A.length cv) A.length (itms A) ?_ (HO2.out.alloc _) (.slice (some ⟨w2.heap.size, 0, none⟩) 1 1) 1 (itm ⟨now + min (max ad 0) 1048576, s + 1, Ms.ix (k : Int)⟩) ?_ (Rd.lit w2 #[.int .i64 (now + min (max ad 0) 1048576), .int .i64 (k : Int)] 51 2 1 rfl (by unfold maxLen; omega)) ?_ ?_ ?_ ?_)
            · rfl
            · rfl
            · simp [itm, Value.oneCell']
            · omega
            · unfold maxLen; omega
            intro v' w' ho' hx' hv' _
            have hX2 := HX2.out.ext0 ((Ext.refl [] w2).alloc (.cells #[.int .i64 (now + min (max ad 0) 1048576), .int .i64 (k : Int)] 51))
            have hsz := hx'.size
            have hvl := HO2.out.lt
            have HX3 := Hid.of (hX2.turn hx' hV.out (vblocks v') (fun q hq => by
              rcases hv' with h | h
              · rw [h] at hq; exact ⟨.inl hq, by have := hvl q hq; simp at hsz; omega⟩
              · exact ⟨.inr (by rw [h] at hq; simp at hq ⊢; omega), ho'.lt q hq⟩))
            have HV3 := Hid.of (show ∀ q ∈ vblocks v', w.heap.size ≤ q from fun q hq => by
              rcases hv' with h | h
              · rw [h] at hq; exact hV.out q hq
              · rw [h] at hq; simp at hq; have := HX2.out.x.size; omega)
            have HO3 := Hid.of ho'
            obtain ⟨a3, c3, rfl⟩ := Rd.isSlice ho'.rd
            have hlen3 : (A ++ [(⟨now + min (max ad 0) 1048576, s + 1, Ms.ix (k : Int)⟩ : Lt)]).length = A.length + 1 := by simp
            have HX4 := HX3.out
            generalize hA4 : A ++ [(⟨now + min (max ad 0) 1048576, s + 1, Ms.ix (k : Int)⟩ : Lt)] = A4 at HX4 hlen3
            have HA4 := Hid.of hA4
            clear ho' hx' hv' hX2 hsz hvl d1 hA4
            have cl := xlen HX4
            have cw := xnow HX4
            go_wp2_with (first
              | (go_at_call 14; (with_reducible refine cl.mono ?_); rintro e w8 ⟨rfl, rfl⟩)
              | (go_at_call 18; (with_reducible refine cw.mono ?_); rintro e w9 ⟨rfl, rfl⟩))
            exact ⟨⟨k + 1, now, s + 1, A4, by congr 1, by omega, rfl, ⟨by omega, by omega, by omega, by omega, by omega⟩, show Own _ _ _ _ _ _ by rw [hlen3, ← HA4.out, itms_snoc]; exact HO3.out, HX4, HV3.out, show SeqOrd _ _ by rw [← HA4.out]; exact hS.out.snoc _ _⟩, by simp [intOf]; omega⟩
          · have hq2 : (IntKind.u64.wrap ak).tmod 6 = 1 := by rw [hq, hK]; rfl
            clear hq hK hK6
            have cs := xsend1 hXW (by omega) ad ⟨hn0, by omega⟩ ⟨hs0, by omega⟩ (wr.heap.size + 1) (by rw [HWW.out, World.size_alloc]) (Ms.ix (k : Int))
            go_wp2_with fail
            rw [← HWW.out]
            refine cs.mono ?_
            rintro e w2 ⟨rfl, h2, f2⟩
            have d1 : w2.cell? ⟨wr.heap.size, 1, none⟩ = some (.int .i64 ad) := (f2.blk HBW.out (by simp)).c 1
            have HX2 := Hid.of (h2.mono (O' := vblocks (.slice av A.length cv)) (fun q hq => by simp [hq]))
            have HO2 := Hid.of (show Own w2 _ _ _ _ _ from by obtain ⟨F, hxF, hF⟩ := f2; exact hOW.keep hxF (fun q hq => hF q (by simp [hq])))
            clear h2 f2 hOW hXW cs ca0 ca1
            go_wp2_with (refine wpl_append (d := some 58) 51 (.agg #[.int .i64 0, .int .i64 0]) 2 16 el_item (.slice av A.length cv) A.length (itms A) ?_ (HO2.out.alloc _) (.slice (some ⟨w2.heap.size, 0, none⟩) 1 1) 1 (itm ⟨now + min (max ad 0) 1048576, s + 1, Ms.ix (k : Int)⟩) ?_ (Rd.lit w2 #[.int .i64 (now + min (max ad 0) 1048576), .int .i64 (k : Int)] 51 2 1 rfl (by unfold maxLen; omega)) ?_ ?_ ?_ ?_)
            · rfl
            · rfl
            · simp [itm, Value.oneCell']
            · omega
            · unfold maxLen; omega
            intro v' w' ho' hx' hv' _
            have hX2 := HX2.out.ext0 ((Ext.refl [] w2).alloc (.cells #[.int .i64 (now + min (max ad 0) 1048576), .int .i64 (k : Int)] 51))
            have hsz := hx'.size
            have hvl := HO2.out.lt
            have HX3 := Hid.of (hX2.turn hx' hV.out (vblocks v') (fun q hq => by
              rcases hv' with h | h
              · rw [h] at hq; exact ⟨.inl hq, by have := hvl q hq; simp at hsz; omega⟩
              · exact ⟨.inr (by rw [h] at hq; simp at hq ⊢; omega), ho'.lt q hq⟩))
            have HV3 := Hid.of (show ∀ q ∈ vblocks v', w.heap.size ≤ q from fun q hq => by
              rcases hv' with h | h
              · rw [h] at hq; exact hV.out q hq
              · rw [h] at hq; simp at hq; have := HX2.out.x.size; omega)
            have HO3 := Hid.of ho'
            obtain ⟨a3, c3, rfl⟩ := Rd.isSlice ho'.rd
            have hlen3 : (A ++ [(⟨now + min (max ad 0) 1048576, s + 1, Ms.ix (k : Int)⟩ : Lt)]).length = A.length + 1 := by simp
            have HX4 := HX3.out
            generalize hA4 : A ++ [(⟨now + min (max ad 0) 1048576, s + 1, Ms.ix (k : Int)⟩ : Lt)] = A4 at HX4 hlen3
            have HA4 := Hid.of hA4
            clear ho' hx' hv' hX2 hsz hvl d1 hA4
            have cl := xlen HX4
            have cw := xnow HX4
            go_wp2_with (first
              | (go_at_call 14; (with_reducible refine cl.mono ?_); rintro e w8 ⟨rfl, rfl⟩)
              | (go_at_call 18; (with_reducible refine cw.mono ?_); rintro e w9 ⟨rfl, rfl⟩))
            exact ⟨⟨k + 1, now, s + 1, A4, by congr 1, by omega, rfl, ⟨by omega, by omega, by omega, by omega, by omega⟩, show Own _ _ _ _ _ _ by rw [hlen3, ← HA4.out, itms_snoc]; exact HO3.out, HX4, HV3.out, show SeqOrd _ _ by rw [← HA4.out]; exact hS.out.snoc _ _⟩, by simp [intOf]; omega⟩
        · rcases hK with hK | hK
          · have hq2 : (IntKind.u64.wrap ak).tmod 6 = 2 := by rw [hq, hK]; rfl
            clear hq hK hK6
            have HIT := Hid.of (item_at hOW)
            have HXW := Hid.of hXW
            have HOW := Hid.of hOW
            clear hOW hXW
            go_wp2
            go_loopw [8, 64] (fun u8 u64 wr => ∃ (j : Nat) (β : Int), u64 = .int .i64 (j : Int) ∧ j ≤ A.length ∧ u8 = .int .i64 β ∧ Hid (BestAt now A j β) ∧ Hid (Ext [] W wr)) (fun _ u64 _ => A.length - (intOf u64).toNat)
            case atStart => exact ⟨0, -1, rfl, by omega, rfl, BestAt.zero _ _, show Ext _ _ _ by rw [HWW.out]; exact Ext.refl _ _⟩
            case round =>
              obtain ⟨j, β, rfl, hj, rfl, hβ, hx3⟩ := hrel
              by_cases hj2 : j < A.length
              · obtain ⟨q, off, rfl, hci⟩ := HIT.out j hj2
                obtain ⟨cj0, cj1⟩ := hci wr hx3.out
                have hxj : A[j]? = some A[j] := List.getElem?_eq_getElem hj2
                generalize hxe : A[j] = x at cj0 cj1 hxj
                obtain ⟨D, hD⟩ : ∃ D, D = x.due := ⟨_, rfl⟩
                obtain ⟨I, hI⟩ : ∃ I, I = x.m.index := ⟨_, rfl⟩
                rw [← hD] at cj0
                rw [← hI] at cj1
                obtain ⟨W3, hW3⟩ : ∃ W3, W3 = wr.alloc (.cells #[.int .i64 D, .int .i64 I] 51) := ⟨_, rfl⟩
                have hxW3 : Ext [] W W3 := by rw [hW3]; exact hx3.out.alloc _
                have cD : ∀ w', Ext [] W3 w' → w'.cell? ⟨wr.heap.size, 0, none⟩ = some (.int .i64 D) := fun w' hx => by
                  have : Blk W3 wr.heap.size 51 [.int .i64 D, .int .i64 I] := by rw [hW3]; exact Blk.new _ _ #[.int .i64 D, .int .i64 I]
                  exact (this.keep hx (by simp)).c 0
                have HW3 := Hid.of hW3
                have HXJ := Hid.of hxj
                have HD := Hid.of hD
                have HXW3 := Hid.of hxW3
                have HCI := Hid.of hci
                clear hW3 hxj hD hI hxW3 hci hxe
                by_cases hDn : D ≤ now
                · rcases hβ.out.form with rfl | ⟨p, z, hpj, rfl, hz⟩
                  · have HB := Hid.of (hβ.out.first HXJ.out (by have := HD.out; omega))
                    go_wp2_with fail
                    rw [← HW3.out]
                    refine wp_region_stepsg [69, 70, 71, 72, 73, 74, 75, 76, 77, 78, 79, 80, 81, 82, 83, 84, 85, 86] (na24firstΦ wr.heap.size D now) (by kernel_rfl) (by kernel_rfl) (fun k y w1 w2 h hx => na24firstΦ_keep wr.heap.size D now k y w1 w2 h hx) ?_ ?_
                    · refine ⟨?f0, ?f1, ?f2, ?f3, ?f4, ?f5, ?f6, ?f7, ?f8, ?f9, ?f10, ?f11, ?f12, ?f13, ?f14, ?f15, ?f16, ?f17, trivial⟩
                      case f0 =>
                        intro g1 w' hx hd
                        refine op_run rfl ?_
                        generalize hA : mkAct _ _ g1 = Ac
                        have h10 : Ac.tmps[10]?.getD undef = .pointer (some ⟨wr.heap.size, 0, none⟩) := by rw [← hA]; exact mkAct_out2 _ _ _ _ _ rfl rfl
                        refine step_val (v := .pointer (some ⟨wr.heap.size, 0, none⟩)) (w' := w') ?_ ⟨_, rfl, Ext.refl _ _, rfl⟩
                        simp [execOp, h10, Result.andThen, go_sem]
                      case f1 =>
                        intro g1 w' hx hd
                        refine op_run rfl ?_
                        have e69 : g1 69 = .pointer (some ⟨wr.heap.size, 0, none⟩) := hd ⟨0, .data⟩ (by simp) rfl
                        generalize hA : mkAct _ _ g1 = Ac
                        have h69 : Ac.tmps[69]?.getD undef = .pointer (some ⟨wr.heap.size, 0, none⟩) := by rw [← hA, mkAct_in2 _ _ _ _ rfl rfl]; exact e69
                        have cX := cD w' hx
                        refine step_val (v := .int .i64 D) (w' := w') ?_ ⟨_, rfl, Ext.refl _ _, rfl⟩
                        simp [execOp, h69, cX, Result.andThen, go_sem]
                      case f2 =>
                        intro g1 w' hx hd
                        refine op_run rfl ?_
                        generalize hA : mkAct _ _ g1 = Ac
                        have h5 : Ac.tmps[5]?.getD undef = .int .i64 now := by rw [← hA]; exact mkAct_out2 _ _ _ _ _ rfl rfl
                        refine step_val (v := .int .i64 now) (w' := w') ?_ ⟨_, rfl, Ext.refl _ _, rfl⟩
                        simp [execOp, h5, Result.andThen, go_sem]
                      case f3 =>
                        intro g1 w' hx hd
                        refine op_run rfl ?_
                        have e70 : g1 70 = .int .i64 D := hd ⟨1, .data⟩ (by simp) rfl
                        have e71 : g1 71 = .int .i64 now := hd ⟨2, .data⟩ (by simp) rfl
                        generalize hA : mkAct _ _ g1 = Ac
                        have h70 : Ac.tmps[70]?.getD undef = .int .i64 D := by rw [← hA, mkAct_in2 _ _ _ _ rfl rfl]; exact e70
                        have h71 : Ac.tmps[71]?.getD undef = .int .i64 now := by rw [← hA, mkAct_in2 _ _ _ _ rfl rfl]; exact e71
                        refine step_val (v := .bool true) (w' := w') ?_ ⟨_, rfl, Ext.refl _ _, rfl⟩
                        simp [execOp, h70, h71, Result.andThen, go_sem, hDn]
                      case f4 =>
                        intro g1 w' hx hd
                        refine op_run rfl ?_
                        have e72 : g1 72 = .bool true := hd ⟨3, .data⟩ (by simp) rfl
                        generalize hA : mkAct _ _ g1 = Ac
                        have h72 : Ac.tmps[72]?.getD undef = .bool true := by rw [← hA, mkAct_in2 _ _ _ _ rfl rfl]; exact e72
                        refine step_val (v := .bool true) (w' := w') ?_ ⟨_, rfl, Ext.refl _ _, rfl⟩
                        simp [execOp, h72, Result.andThen, go_sem]
                      case f5 =>
                        intro g1 w' hx hd
                        have eg : g1 73 = .bool true := hd ⟨4, .guard⟩ (by simp) rfl
                        refine op_yes rfl rfl rfl rfl eg ?_
                        generalize hA : mkAct _ _ g1 = Ac
                        have h8 : Ac.tmps[8]?.getD undef = .int .i64 (-1) := by rw [← hA]; exact mkAct_out2 _ _ _ _ _ rfl rfl
                        refine step_val (v := .int .i64 (-1)) (w' := w') ?_ ⟨_, rfl, Ext.refl _ _, rfl⟩
                        simp [execOp, h8, Result.andThen, go_sem]
                      case f6 =>
                        intro g1 w' hx hd
                        have eg : g1 73 = .bool true := hd ⟨4, .guard⟩ (by simp) rfl
                        refine op_yes rfl rfl rfl rfl eg ?_
                        have e74 : g1 74 = .int .i64 (-1) := hd ⟨5, .data⟩ (by simp) rfl
                        generalize hA : mkAct _ _ g1 = Ac
                        have h74 : Ac.tmps[74]?.getD undef = .int .i64 (-1) := by rw [← hA, mkAct_in2 _ _ _ _ rfl rfl]; exact e74
                        refine step_val (v := .bool true) (w' := w') ?_ ⟨_, rfl, Ext.refl _ _, rfl⟩
                        simp [execOp, h74, Result.andThen, go_sem]
                      case f7 =>
                        intro g1 w' hx hd
                        have eg : g1 73 = .bool true := hd ⟨4, .guard⟩ (by simp) rfl
                        refine op_yes rfl rfl rfl rfl eg ?_
                        have e75 : g1 75 = .bool true := hd ⟨6, .data⟩ (by simp) rfl
                        generalize hA : mkAct _ _ g1 = Ac
                        have h75 : Ac.tmps[75]?.getD undef = .bool true := by rw [← hA, mkAct_in2 _ _ _ _ rfl rfl]; exact e75
                        refine step_val (v := .bool true) (w' := w') ?_ ⟨_, rfl, Ext.refl _ _, rfl⟩
                        simp [execOp, h75, Result.andThen, go_sem]
                      case f8 =>
                        intro g1 w' hx hd
                        have eg : g1 76 = .bool true := hd ⟨7, .guard⟩ (by simp) rfl
                        exact op_no rfl rfl rfl rfl true eg (by decide) ⟨_, rfl, Ext.refl _ _, by first | rfl | trivial⟩
                      case f9 =>
                        intro g1 w' hx hd
                        have eg : g1 76 = .bool true := hd ⟨7, .guard⟩ (by simp) rfl
                        exact op_no rfl rfl rfl rfl true eg (by decide) ⟨_, rfl, Ext.refl _ _, by first | rfl | trivial⟩
                      case f10 =>
                        intro g1 w' hx hd
                        have eg : g1 76 = .bool true := hd ⟨7, .guard⟩ (by simp) rfl
                        exact op_no rfl rfl rfl rfl true eg (by decide) ⟨_, rfl, Ext.refl _ _, by first | rfl | trivial⟩
                      case f11 =>
                        intro g1 w' hx hd
                        have eg : g1 76 = .bool true := hd ⟨7, .guard⟩ (by simp) rfl
                        exact op_no rfl rfl rfl rfl true eg (by decide) ⟨_, rfl, Ext.refl _ _, by first | rfl | trivial⟩
                      case f12 =>
                        intro g1 w' hx hd
                        have eg : g1 76 = .bool true := hd ⟨7, .guard⟩ (by simp) rfl
                        exact op_no rfl rfl rfl rfl true eg (by decide) ⟨_, rfl, Ext.refl _ _, by first | rfl | trivial⟩
                      case f13 =>
                        intro g1 w' hx hd
                        have eg : g1 76 = .bool true := hd ⟨7, .guard⟩ (by simp) rfl
                        exact op_no rfl rfl rfl rfl true eg (by decide) ⟨_, rfl, Ext.refl _ _, by first | rfl | trivial⟩
                      case f14 =>
                        intro g1 w' hx hd
                        have eg : g1 76 = .bool true := hd ⟨7, .guard⟩ (by simp) rfl
                        exact op_no rfl rfl rfl rfl true eg (by decide) ⟨_, rfl, Ext.refl _ _, by first | rfl | trivial⟩
                      case f15 =>
                        intro g1 w' hx hd
                        have eg : g1 76 = .bool true := hd ⟨7, .guard⟩ (by simp) rfl
                        exact op_no rfl rfl rfl rfl true eg (by decide) ⟨_, rfl, Ext.refl _ _, by first | rfl | trivial⟩
                      case f16 =>
                        intro g1 w' hx hd
                        have eg : g1 73 = .bool true := hd ⟨4, .guard⟩ (by simp) rfl
                        refine op_yes rfl rfl rfl rfl eg ?_
                        have e76 : g1 76 = .bool true := hd ⟨7, .data⟩ (by simp) rfl
                        generalize hA : mkAct _ _ g1 = Ac
                        have h76 : Ac.tmps[76]?.getD undef = .bool true := by rw [← hA, mkAct_in2 _ _ _ _ rfl rfl]; exact e76
                        refine step_val (v := .bool true) (w' := w') ?_ ⟨_, rfl, Ext.refl _ _, rfl⟩
                        simp [execOp, h76, Result.andThen, go_sem]
                      case f17 =>
                        intro g1 w' hx hd
                        refine op_run rfl ?_
                        have e73 : g1 73 = .bool true := hd ⟨4, .data⟩ (by simp) rfl
                        have e85 : g1 85 = .bool true := hd ⟨16, .data⟩ (by simp) rfl
                        generalize hA : mkAct _ _ g1 = Ac
                        have h73 : Ac.tmps[73]?.getD undef = .bool true := by rw [← hA, mkAct_in2 _ _ _ _ rfl rfl]; exact e73
                        have h85 : Ac.tmps[85]?.getD undef = .bool true := by rw [← hA, mkAct_in2 _ _ _ _ rfl rfl]; exact e85
                        refine step_val (v := .bool true) (w' := w') ?_ ⟨_, rfl, Ext.refl _ _, rfl⟩
                        simp [execOp, h73, h85, Result.andThen, go_sem]
                    · intro g1 w5 hx5 hd
                      have e86 : g1 86 = .bool true := hd 17 (by decide)
                      unfold mkAct
                      simp only [List.zipIdx_cons, List.zipIdx_nil, List.map_cons, List.map_nil, Nat.zero_add, Nat.reduceAdd, List.contains_cons, List.contains_nil, Nat.reduceBEq, Bool.or_false, Bool.or_true, ↓reduceIte, Bool.false_eq_true]
                      rw [e86]
                      clear hd e86
                      have HX5 := Hid.of (HXW3.out.then0 hx5)
                      clear hx5 cD cj0 cj1
                      go_wp2
                      exact ⟨⟨j + 1, (j : Int), by congr 1, by omega, rfl, HB.out, HX5.out⟩, by simp [intOf]; omega⟩
                  · obtain ⟨q', off', he, hcp⟩ := HIT.out p (by omega)
                    simp only [Option.some.injEq, Addr.mk.injEq, and_true] at he
                    obtain ⟨rfl, rfl⟩ := he
                    have hpn : p < A.length := by omega
                    obtain ⟨E, hE⟩ : ∃ E, E = z.due := ⟨_, rfl⟩
                    have cE : ∀ w', Ext [] W3 w' → w'.cell? ⟨q, off + p * 2, none⟩ = some (.int .i64 E) := fun w' hx => by
                      have h1 := (hcp w' (HXW3.out.then0 hx)).1
                      rw [List.getElem?_eq_getElem hpn] at hz
                      rw [Option.some.inj hz, ← hE] at h1
                      exact h1
                    have HE := Hid.of hE
                    have HZ := Hid.of hz
                    clear hE hz hcp
                    by_cases hDE : D < E
                    · have HB := Hid.of (hβ.out.less HXJ.out HZ.out (by have := HD.out; have := HE.out; omega))
                      go_wp2_with fail
                      rw [← HW3.out]
                      refine wp_region_stepsg [69, 70, 71, 72, 73, 74, 75, 76, 77, 78, 79, 80, 81, 82, 83, 84, 85, 86] (na24lessΦ wr.heap.size q off A.length cv p D E now) (by kernel_rfl) (by kernel_rfl) (fun k y w1 w2 h hx => na24lessΦ_keep wr.heap.size q off A.length cv p D E now k y w1 w2 h hx) ?_ ?_
                      · refine ⟨?f0, ?f1, ?f2, ?f3, ?f4, ?f5, ?f6, ?f7, ?f8, ?f9, ?f10, ?f11, ?f12, ?f13, ?f14, ?f15, ?f16, ?f17, trivial⟩
                        case f0 =>
                          intro g1 w' hx hd
                          refine op_run rfl ?_
                          generalize hA : mkAct _ _ g1 = Ac
                          have h10 : Ac.tmps[10]?.getD undef = .pointer (some ⟨wr.heap.size, 0, none⟩) := by rw [← hA]; exact mkAct_out2 _ _ _ _ _ rfl rfl
                          refine step_val (v := .pointer (some ⟨wr.heap.size, 0, none⟩)) (w' := w') ?_ ⟨_, rfl, Ext.refl _ _, rfl⟩
                          simp [execOp, h10, Result.andThen, go_sem]
                        case f1 =>
                          intro g1 w' hx hd
                          refine op_run rfl ?_
                          have e69 : g1 69 = .pointer (some ⟨wr.heap.size, 0, none⟩) := hd ⟨0, .data⟩ (by simp) rfl
                          generalize hA : mkAct _ _ g1 = Ac
                          have h69 : Ac.tmps[69]?.getD undef = .pointer (some ⟨wr.heap.size, 0, none⟩) := by rw [← hA, mkAct_in2 _ _ _ _ rfl rfl]; exact e69
                          have cX := cD w' hx
                          refine step_val (v := .int .i64 D) (w' := w') ?_ ⟨_, rfl, Ext.refl _ _, rfl⟩
                          simp [execOp, h69, cX, Result.andThen, go_sem]
                        case f2 =>
                          intro g1 w' hx hd
                          refine op_run rfl ?_
                          generalize hA : mkAct _ _ g1 = Ac
                          have h5 : Ac.tmps[5]?.getD undef = .int .i64 now := by rw [← hA]; exact mkAct_out2 _ _ _ _ _ rfl rfl
                          refine step_val (v := .int .i64 now) (w' := w') ?_ ⟨_, rfl, Ext.refl _ _, rfl⟩
                          simp [execOp, h5, Result.andThen, go_sem]
                        case f3 =>
                          intro g1 w' hx hd
                          refine op_run rfl ?_
                          have e70 : g1 70 = .int .i64 D := hd ⟨1, .data⟩ (by simp) rfl
                          have e71 : g1 71 = .int .i64 now := hd ⟨2, .data⟩ (by simp) rfl
                          generalize hA : mkAct _ _ g1 = Ac
                          have h70 : Ac.tmps[70]?.getD undef = .int .i64 D := by rw [← hA, mkAct_in2 _ _ _ _ rfl rfl]; exact e70
                          have h71 : Ac.tmps[71]?.getD undef = .int .i64 now := by rw [← hA, mkAct_in2 _ _ _ _ rfl rfl]; exact e71
                          refine step_val (v := .bool true) (w' := w') ?_ ⟨_, rfl, Ext.refl _ _, rfl⟩
                          simp [execOp, h70, h71, Result.andThen, go_sem, hDn]
                        case f4 =>
                          intro g1 w' hx hd
                          refine op_run rfl ?_
                          have e72 : g1 72 = .bool true := hd ⟨3, .data⟩ (by simp) rfl
                          generalize hA : mkAct _ _ g1 = Ac
                          have h72 : Ac.tmps[72]?.getD undef = .bool true := by rw [← hA, mkAct_in2 _ _ _ _ rfl rfl]; exact e72
                          refine step_val (v := .bool true) (w' := w') ?_ ⟨_, rfl, Ext.refl _ _, rfl⟩
                          simp [execOp, h72, Result.andThen, go_sem]
                        case f5 =>
                          intro g1 w' hx hd
                          have eg : g1 73 = .bool true := hd ⟨4, .guard⟩ (by simp) rfl
                          refine op_yes rfl rfl rfl rfl eg ?_
                          generalize hA : mkAct _ _ g1 = Ac
                          have h8 : Ac.tmps[8]?.getD undef = .int .i64 (p : Int) := by rw [← hA]; exact mkAct_out2 _ _ _ _ _ rfl rfl
                          refine step_val (v := .int .i64 (p : Int)) (w' := w') ?_ ⟨_, rfl, Ext.refl _ _, rfl⟩
                          simp [execOp, h8, Result.andThen, go_sem]
                        case f6 =>
                          intro g1 w' hx hd
                          have eg : g1 73 = .bool true := hd ⟨4, .guard⟩ (by simp) rfl
                          refine op_yes rfl rfl rfl rfl eg ?_
                          have e74 : g1 74 = .int .i64 (p : Int) := hd ⟨5, .data⟩ (by simp) rfl
                          generalize hA : mkAct _ _ g1 = Ac
                          have h74 : Ac.tmps[74]?.getD undef = .int .i64 (p : Int) := by rw [← hA, mkAct_in2 _ _ _ _ rfl rfl]; exact e74
                          refine step_val (v := .bool false) (w' := w') ?_ ⟨_, rfl, Ext.refl _ _, rfl⟩
                          simp [execOp, h74, Result.andThen, go_sem]
                        case f7 =>
                          intro g1 w' hx hd
                          have eg : g1 73 = .bool true := hd ⟨4, .guard⟩ (by simp) rfl
                          refine op_yes rfl rfl rfl rfl eg ?_
                          have e75 : g1 75 = .bool false := hd ⟨6, .data⟩ (by simp) rfl
                          generalize hA : mkAct _ _ g1 = Ac
                          have h75 : Ac.tmps[75]?.getD undef = .bool false := by rw [← hA, mkAct_in2 _ _ _ _ rfl rfl]; exact e75
                          refine step_val (v := .bool false) (w' := w') ?_ ⟨_, rfl, Ext.refl _ _, rfl⟩
                          simp [execOp, h75, Result.andThen, go_sem]
                        case f8 =>
                          intro g1 w' hx hd
                          have eg : g1 76 = .bool false := hd ⟨7, .guard⟩ (by simp) rfl
                          refine op_yes rfl rfl rfl rfl eg ?_
                          generalize hA : mkAct _ _ g1 = Ac
                          have h10 : Ac.tmps[10]?.getD undef = .pointer (some ⟨wr.heap.size, 0, none⟩) := by rw [← hA]; exact mkAct_out2 _ _ _ _ _ rfl rfl
                          refine step_val (v := .pointer (some ⟨wr.heap.size, 0, none⟩)) (w' := w') ?_ ⟨_, rfl, Ext.refl _ _, rfl⟩
                          simp [execOp, h10, Result.andThen, go_sem]
                        case f9 =>
                          intro g1 w' hx hd
                          have eg : g1 76 = .bool false := hd ⟨7, .guard⟩ (by simp) rfl
                          refine op_yes rfl rfl rfl rfl eg ?_
                          have e77 : g1 77 = .pointer (some ⟨wr.heap.size, 0, none⟩) := hd ⟨8, .data⟩ (by simp) rfl
                          generalize hA : mkAct _ _ g1 = Ac
                          have h77 : Ac.tmps[77]?.getD undef = .pointer (some ⟨wr.heap.size, 0, none⟩) := by rw [← hA, mkAct_in2 _ _ _ _ rfl rfl]; exact e77
                          have cX := cD w' hx
                          refine step_val (v := .int .i64 D) (w' := w') ?_ ⟨_, rfl, Ext.refl _ _, rfl⟩
                          simp [execOp, h77, cX, Result.andThen, go_sem]
                        case f10 =>
                          intro g1 w' hx hd
                          have eg : g1 76 = .bool false := hd ⟨7, .guard⟩ (by simp) rfl
                          refine op_yes rfl rfl rfl rfl eg ?_
                          generalize hA : mkAct _ _ g1 = Ac
                          have h4 : Ac.tmps[4]?.getD undef = .slice (some ⟨q, off, none⟩) A.length cv := by rw [← hA]; exact mkAct_out2 _ _ _ _ _ rfl rfl
                          refine step_val (v := .slice (some ⟨q, off, none⟩) A.length cv) (w' := w') ?_ ⟨_, rfl, Ext.refl _ _, rfl⟩
                          simp [execOp, h4, Result.andThen, go_sem]
                        case f11 =>
                          intro g1 w' hx hd
                          have eg : g1 76 = .bool false := hd ⟨7, .guard⟩ (by simp) rfl
                          refine op_yes rfl rfl rfl rfl eg ?_
                          generalize hA : mkAct _ _ g1 = Ac
                          have h8 : Ac.tmps[8]?.getD undef = .int .i64 (p : Int) := by rw [← hA]; exact mkAct_out2 _ _ _ _ _ rfl rfl
                          refine step_val (v := .int .i64 (p : Int)) (w' := w') ?_ ⟨_, rfl, Ext.refl _ _, rfl⟩
                          simp [execOp, h8, Result.andThen, go_sem]
                        case f12 =>
                          intro g1 w' hx hd
                          have eg : g1 76 = .bool false := hd ⟨7, .guard⟩ (by simp) rfl
                          refine op_yes rfl rfl rfl rfl eg ?_
                          have e79 : g1 79 = .slice (some ⟨q, off, none⟩) A.length cv := hd ⟨10, .data⟩ (by simp) rfl
                          have e80 : g1 80 = .int .i64 (p : Int) := hd ⟨11, .data⟩ (by simp) rfl
                          generalize hA : mkAct _ _ g1 = Ac
                          have h79 : Ac.tmps[79]?.getD undef = .slice (some ⟨q, off, none⟩) A.length cv := by rw [← hA, mkAct_in2 _ _ _ _ rfl rfl]; exact e79
                          have h80 : Ac.tmps[80]?.getD undef = .int .i64 (p : Int) := by rw [← hA, mkAct_in2 _ _ _ _ rfl rfl]; exact e80
                          refine step_val (v := .pointer (some ⟨q, off + p * 2, none⟩)) (w' := w') ?_ ⟨_, rfl, Ext.refl _ _, rfl⟩
                          simp [execOp, h79, h80, Result.andThen, go_sem, hpn]
                        case f13 =>
                          intro g1 w' hx hd
                          have eg : g1 76 = .bool false := hd ⟨7, .guard⟩ (by simp) rfl
                          refine op_yes rfl rfl rfl rfl eg ?_
                          have e81 : g1 81 = .pointer (some ⟨q, off + p * 2, none⟩) := hd ⟨12, .data⟩ (by simp) rfl
                          generalize hA : mkAct _ _ g1 = Ac
                          have h81 : Ac.tmps[81]?.getD undef = .pointer (some ⟨q, off + p * 2, none⟩) := by rw [← hA, mkAct_in2 _ _ _ _ rfl rfl]; exact e81
                          refine step_val (v := .pointer (some ⟨q, off + p * 2, none⟩)) (w' := w') ?_ ⟨_, rfl, Ext.refl _ _, rfl⟩
                          simp [execOp, h81, Result.andThen, go_sem]
                        case f14 =>
                          intro g1 w' hx hd
                          have eg : g1 76 = .bool false := hd ⟨7, .guard⟩ (by simp) rfl
                          refine op_yes rfl rfl rfl rfl eg ?_
                          have e82 : g1 82 = .pointer (some ⟨q, off + p * 2, none⟩) := hd ⟨13, .data⟩ (by simp) rfl
                          generalize hA : mkAct _ _ g1 = Ac
                          have h82 : Ac.tmps[82]?.getD undef = .pointer (some ⟨q, off + p * 2, none⟩) := by rw [← hA, mkAct_in2 _ _ _ _ rfl rfl]; exact e82
                          have cX := cE w' hx
                          refine step_val (v := .int .i64 E) (w' := w') ?_ ⟨_, rfl, Ext.refl _ _, rfl⟩
                          simp [execOp, h82, cX, Result.andThen, go_sem]
                        case f15 =>
                          intro g1 w' hx hd
                          have eg : g1 76 = .bool false := hd ⟨7, .guard⟩ (by simp) rfl
                          refine op_yes rfl rfl rfl rfl eg ?_
                          have e78 : g1 78 = .int .i64 D := hd ⟨9, .data⟩ (by simp) rfl
                          have e83 : g1 83 = .int .i64 E := hd ⟨14, .data⟩ (by simp) rfl
                          generalize hA : mkAct _ _ g1 = Ac
                          have h78 : Ac.tmps[78]?.getD undef = .int .i64 D := by rw [← hA, mkAct_in2 _ _ _ _ rfl rfl]; exact e78
                          have h83 : Ac.tmps[83]?.getD undef = .int .i64 E := by rw [← hA, mkAct_in2 _ _ _ _ rfl rfl]; exact e83
                          refine step_val (v := .bool true) (w' := w') ?_ ⟨_, rfl, Ext.refl _ _, rfl⟩
                          simp [execOp, h78, h83, Result.andThen, go_sem, hDE]
                        case f16 =>
                          intro g1 w' hx hd
                          have eg : g1 73 = .bool true := hd ⟨4, .guard⟩ (by simp) rfl
                          refine op_yes rfl rfl rfl rfl eg ?_
                          have e76 : g1 76 = .bool false := hd ⟨7, .data⟩ (by simp) rfl
                          have e84 : g1 84 = .bool true := hd ⟨15, .data⟩ (by simp) rfl
                          generalize hA : mkAct _ _ g1 = Ac
                          have h76 : Ac.tmps[76]?.getD undef = .bool false := by rw [← hA, mkAct_in2 _ _ _ _ rfl rfl]; exact e76
                          have h84 : Ac.tmps[84]?.getD undef = .bool true := by rw [← hA, mkAct_in2 _ _ _ _ rfl rfl]; exact e84
                          refine step_val (v := .bool true) (w' := w') ?_ ⟨_, rfl, Ext.refl _ _, rfl⟩
                          simp [execOp, h76, h84, Result.andThen, go_sem]
                        case f17 =>
                          intro g1 w' hx hd
                          refine op_run rfl ?_
                          have e73 : g1 73 = .bool true := hd ⟨4, .data⟩ (by simp) rfl
                          have e85 : g1 85 = .bool true := hd ⟨16, .data⟩ (by simp) rfl
                          generalize hA : mkAct _ _ g1 = Ac
                          have h73 : Ac.tmps[73]?.getD undef = .bool true := by rw [← hA, mkAct_in2 _ _ _ _ rfl rfl]; exact e73
                          have h85 : Ac.tmps[85]?.getD undef = .bool true := by rw [← hA, mkAct_in2 _ _ _ _ rfl rfl]; exact e85
                          refine step_val (v := .bool true) (w' := w') ?_ ⟨_, rfl, Ext.refl _ _, rfl⟩
                          simp [execOp, h73, h85, Result.andThen, go_sem]
                      · intro g1 w5 hx5 hd
                        have e86 : g1 86 = .bool true := hd 17 (by decide)
                        unfold mkAct
                        simp only [List.zipIdx_cons, List.zipIdx_nil, List.map_cons, List.map_nil, Nat.zero_add, Nat.reduceAdd, List.contains_cons, List.contains_nil, Nat.reduceBEq, Bool.or_false, Bool.or_true, ↓reduceIte, Bool.false_eq_true]
                        rw [e86]
                        clear hd e86
                        have HX5 := Hid.of (HXW3.out.then0 hx5)
                        clear hx5 cD cj0 cj1 cE
                        go_wp2
                        exact ⟨⟨j + 1, (j : Int), by congr 1, by omega, rfl, HB.out, HX5.out⟩, by simp [intOf]; omega⟩
                    · have HB := Hid.of (hβ.out.not HXJ.out HZ.out (by have := HD.out; have := HE.out; omega))
                      go_wp2_with fail
                      rw [← HW3.out]
                      refine wp_region_stepsg [69, 70, 71, 72, 73, 74, 75, 76, 77, 78, 79, 80, 81, 82, 83, 84, 85, 86] (na24notΦ wr.heap.size q off A.length cv p D E now) (by kernel_rfl) (by kernel_rfl) (fun k y w1 w2 h hx => na24notΦ_keep wr.heap.size q off A.length cv p D E now k y w1 w2 h hx) ?_ ?_
                      · refine ⟨?f0, ?f1, ?f2, ?f3, ?f4, ?f5, ?f6, ?f7, ?f8, ?f9, ?f10, ?f11, ?f12, ?f13, ?f14, ?f15, ?f16, ?f17, trivial⟩
                        case f0 =>
                          intro g1 w' hx hd
                          refine op_run rfl ?_
                          generalize hA : mkAct _ _ g1 = Ac
                          have h10 : Ac.tmps[10]?.getD undef = .pointer (some ⟨wr.heap.size, 0, none⟩) := by rw [← hA]; exact mkAct_out2 _ _ _ _ _ rfl rfl
                          refine step_val (v := .pointer (some ⟨wr.heap.size, 0, none⟩)) (w' := w') ?_ ⟨_, rfl, Ext.refl _ _, rfl⟩
                          simp [execOp, h10, Result.andThen, go_sem]
                        case f1 =>
                          intro g1 w' hx hd
                          refine op_run rfl ?_
                          have e69 : g1 69 = .pointer (some ⟨wr.heap.size, 0, none⟩) := hd ⟨0, .data⟩ (by simp) rfl
                          generalize hA : mkAct _ _ g1 = Ac
                          have h69 : Ac.tmps[69]?.getD undef = .pointer (some ⟨wr.heap.size, 0, none⟩) := by rw [← hA, mkAct_in2 _ _ _ _ rfl rfl]; exact e69
                          have cX := cD w' hx
                          refine step_val (v := .int .i64 D) (w' := w') ?_ ⟨_, rfl, Ext.refl _ _, rfl⟩
                          simp [execOp, h69, cX, Result.andThen, go_sem]
                        case f2 =>
                          intro g1 w' hx hd
                          refine op_run rfl ?_
                          generalize hA : mkAct _ _ g1 = Ac
                          have h5 : Ac.tmps[5]?.getD undef = .int .i64 now := by rw [← hA]; exact mkAct_out2 _ _ _ _ _ rfl rfl
                          refine step_val (v := .int .i64 now) (w' := w') ?_ ⟨_, rfl, Ext.refl _ _, rfl⟩
                          simp [execOp, h5, Result.andThen, go_sem]
                        case f3 =>
                          intro g1 w' hx hd
                          refine op_run rfl ?_
                          have e70 : g1 70 = .int .i64 D := hd ⟨1, .data⟩ (by simp) rfl
                          have e71 : g1 71 = .int .i64 now := hd ⟨2, .data⟩ (by simp) rfl
                          generalize hA : mkAct _ _ g1 = Ac
                          have h70 : Ac.tmps[70]?.getD undef = .int .i64 D := by rw [← hA, mkAct_in2 _ _ _ _ rfl rfl]; exact e70
                          have h71 : Ac.tmps[71]?.getD undef = .int .i64 now := by rw [← hA, mkAct_in2 _ _ _ _ rfl rfl]; exact e71
                          refine step_val (v := .bool true) (w' := w') ?_ ⟨_, rfl, Ext.refl _ _, rfl⟩
                          simp [execOp, h70, h71, Result.andThen, go_sem, hDn]
                        case f4 =>
                          intro g1 w' hx hd
                          refine op_run rfl ?_
                          have e72 : g1 72 = .bool true := hd ⟨3, .data⟩ (by simp) rfl
                          generalize hA : mkAct _ _ g1 = Ac
                          have h72 : Ac.tmps[72]?.getD undef = .bool true := by rw [← hA, mkAct_in2 _ _ _ _ rfl rfl]; exact e72
                          refine step_val (v := .bool true) (w' := w') ?_ ⟨_, rfl, Ext.refl _ _, rfl⟩
                          simp [execOp, h72, Result.andThen, go_sem]
                        case f5 =>
                          intro g1 w' hx hd
                          have eg : g1 73 = .bool true := hd ⟨4, .guard⟩ (by simp) rfl
                          refine op_yes rfl rfl rfl rfl eg ?_
                          generalize hA : mkAct _ _ g1 = Ac
                          have h8 : Ac.tmps[8]?.getD undef = .int .i64 (p : Int) := by rw [← hA]; exact mkAct_out2 _ _ _ _ _ rfl rfl
                          refine step_val (v := .int .i64 (p : Int)) (w' := w') ?_ ⟨_, rfl, Ext.refl _ _, rfl⟩
                          simp [execOp, h8, Result.andThen, go_sem]
                        case f6 =>
                          intro g1 w' hx hd
                          have eg : g1 73 = .bool true := hd ⟨4, .guard⟩ (by simp) rfl
                          refine op_yes rfl rfl rfl rfl eg ?_
                          have e74 : g1 74 = .int .i64 (p : Int) := hd ⟨5, .data⟩ (by simp) rfl
                          generalize hA : mkAct _ _ g1 = Ac
                          have h74 : Ac.tmps[74]?.getD undef = .int .i64 (p : Int) := by rw [← hA, mkAct_in2 _ _ _ _ rfl rfl]; exact e74
                          refine step_val (v := .bool false) (w' := w') ?_ ⟨_, rfl, Ext.refl _ _, rfl⟩
                          simp [execOp, h74, Result.andThen, go_sem]
                        case f7 =>
                          intro g1 w' hx hd
                          have eg : g1 73 = .bool true := hd ⟨4, .guard⟩ (by simp) rfl
                          refine op_yes rfl rfl rfl rfl eg ?_
                          have e75 : g1 75 = .bool false := hd ⟨6, .data⟩ (by simp) rfl
                          generalize hA : mkAct _ _ g1 = Ac
                          have h75 : Ac.tmps[75]?.getD undef = .bool false := by rw [← hA, mkAct_in2 _ _ _ _ rfl rfl]; exact e75
                          refine step_val (v := .bool false) (w' := w') ?_ ⟨_, rfl, Ext.refl _ _, rfl⟩
                          simp [execOp, h75, Result.andThen, go_sem]
                        case f8 =>
                          intro g1 w' hx hd
                          have eg : g1 76 = .bool false := hd ⟨7, .guard⟩ (by simp) rfl
                          refine op_yes rfl rfl rfl rfl eg ?_
                          generalize hA : mkAct _ _ g1 = Ac
                          have h10 : Ac.tmps[10]?.getD undef = .pointer (some ⟨wr.heap.size, 0, none⟩) := by rw [← hA]; exact mkAct_out2 _ _ _ _ _ rfl rfl
                          refine step_val (v := .pointer (some ⟨wr.heap.size, 0, none⟩)) (w' := w') ?_ ⟨_, rfl, Ext.refl _ _, rfl⟩
                          simp [execOp, h10, Result.andThen, go_sem]
                        case f9 =>
                          intro g1 w' hx hd
                          have eg : g1 76 = .bool false := hd ⟨7, .guard⟩ (by simp) rfl
                          refine op_yes rfl rfl rfl rfl eg ?_
                          have e77 : g1 77 = .pointer (some ⟨wr.heap.size, 0, none⟩) := hd ⟨8, .data⟩ (by simp) rfl
                          generalize hA : mkAct _ _ g1 = Ac
                          have h77 : Ac.tmps[77]?.getD undef = .pointer (some ⟨wr.heap.size, 0, none⟩) := by rw [← hA, mkAct_in2 _ _ _ _ rfl rfl]; exact e77
                          have cX := cD w' hx
                          refine step_val (v := .int .i64 D) (w' := w') ?_ ⟨_, rfl, Ext.refl _ _, rfl⟩
                          simp [execOp, h77, cX, Result.andThen, go_sem]
                        case f10 =>
                          intro g1 w' hx hd
                          have eg : g1 76 = .bool false := hd ⟨7, .guard⟩ (by simp) rfl
                          refine op_yes rfl rfl rfl rfl eg ?_
                          generalize hA : mkAct _ _ g1 = Ac
                          have h4 : Ac.tmps[4]?.getD undef = .slice (some ⟨q, off, none⟩) A.length cv := by rw [← hA]; exact mkAct_out2 _ _ _ _ _ rfl rfl
                          refine step_val (v := .slice (some ⟨q, off, none⟩) A.length cv) (w' := w') ?_ ⟨_, rfl, Ext.refl _ _, rfl⟩
                          simp [execOp, h4, Result.andThen, go_sem]
                        case f11 =>
                          intro g1 w' hx hd
                          have eg : g1 76 = .bool false := hd ⟨7, .guard⟩ (by simp) rfl
                          refine op_yes rfl rfl rfl rfl eg ?_
                          generalize hA : mkAct _ _ g1 = Ac
                          have h8 : Ac.tmps[8]?.getD undef = .int .i64 (p : Int) := by rw [← hA]; exact mkAct_out2 _ _ _ _ _ rfl rfl
                          refine step_val (v := .int .i64 (p : Int)) (w' := w') ?_ ⟨_, rfl, Ext.refl _ _, rfl⟩
                          simp [execOp, h8, Result.andThen, go_sem]
                        case f12 =>
                          intro g1 w' hx hd
                          have eg : g1 76 = .bool false := hd ⟨7, .guard⟩ (by simp) rfl
                          refine op_yes rfl rfl rfl rfl eg ?_
                          have e79 : g1 79 = .slice (some ⟨q, off, none⟩) A.length cv := hd ⟨10, .data⟩ (by simp) rfl
                          have e80 : g1 80 = .int .i64 (p : Int) := hd ⟨11, .data⟩ (by simp) rfl
                          generalize hA : mkAct _ _ g1 = Ac
                          have h79 : Ac.tmps[79]?.getD undef = .slice (some ⟨q, off, none⟩) A.length cv := by rw [← hA, mkAct_in2 _ _ _ _ rfl rfl]; exact e79
                          have h80 : Ac.tmps[80]?.getD undef = .int .i64 (p : Int) := by rw [← hA, mkAct_in2 _ _ _ _ rfl rfl]; exact e80
                          refine step_val (v := .pointer (some ⟨q, off + p * 2, none⟩)) (w' := w') ?_ ⟨_, rfl, Ext.refl _ _, rfl⟩
                          simp [execOp, h79, h80, Result.andThen, go_sem, hpn]
                        case f13 =>
                          intro g1 w' hx hd
                          have eg : g1 76 = .bool false := hd ⟨7, .guard⟩ (by simp) rfl
                          refine op_yes rfl rfl rfl rfl eg ?_
                          have e81 : g1 81 = .pointer (some ⟨q, off + p * 2, none⟩) := hd ⟨12, .data⟩ (by simp) rfl
                          generalize hA : mkAct _ _ g1 = Ac
                          have h81 : Ac.tmps[81]?.getD undef = .pointer (some ⟨q, off + p * 2, none⟩) := by rw [← hA, mkAct_in2 _ _ _ _ rfl rfl]; exact e81
                          refine step_val (v := .pointer (some ⟨q, off + p * 2, none⟩)) (w' := w') ?_ ⟨_, rfl, Ext.refl _ _, rfl⟩
                          simp [execOp, h81, Result.andThen, go_sem]
                        case f14 =>
                          intro g1 w' hx hd
                          have eg : g1 76 = .bool false := hd ⟨7, .guard⟩ (by simp) rfl
                          refine op_yes rfl rfl rfl rfl eg ?_
                          have e82 : g1 82 = .pointer (some ⟨q, off + p * 2, none⟩) := hd ⟨13, .data⟩ (by simp) rfl
                          generalize hA : mkAct _ _ g1 = Ac
                          have h82 : Ac.tmps[82]?.getD undef = .pointer (some ⟨q, off + p * 2, none⟩) := by rw [← hA, mkAct_in2 _ _ _ _ rfl rfl]; exact e82
                          have cX := cE w' hx
                          refine step_val (v := .int .i64 E) (w' := w') ?_ ⟨_, rfl, Ext.refl _ _, rfl⟩
                          simp [execOp, h82, cX, Result.andThen, go_sem]
                        case f15 =>
                          intro g1 w' hx hd
                          have eg : g1 76 = .bool false := hd ⟨7, .guard⟩ (by simp) rfl
                          refine op_yes rfl rfl rfl rfl eg ?_
                          have e78 : g1 78 = .int .i64 D := hd ⟨9, .data⟩ (by simp) rfl
                          have e83 : g1 83 = .int .i64 E := hd ⟨14, .data⟩ (by simp) rfl
                          generalize hA : mkAct _ _ g1 = Ac
                          have h78 : Ac.tmps[78]?.getD undef = .int .i64 D := by rw [← hA, mkAct_in2 _ _ _ _ rfl rfl]; exact e78
                          have h83 : Ac.tmps[83]?.getD undef = .int .i64 E := by rw [← hA, mkAct_in2 _ _ _ _ rfl rfl]; exact e83
                          refine step_val (v := .bool false) (w' := w') ?_ ⟨_, rfl, Ext.refl _ _, rfl⟩
                          simp [execOp, h78, h83, Result.andThen, go_sem, hDE]
                        case f16 =>
                          intro g1 w' hx hd
                          have eg : g1 73 = .bool true := hd ⟨4, .guard⟩ (by simp) rfl
                          refine op_yes rfl rfl rfl rfl eg ?_
                          have e76 : g1 76 = .bool false := hd ⟨7, .data⟩ (by simp) rfl
                          have e84 : g1 84 = .bool false := hd ⟨15, .data⟩ (by simp) rfl
                          generalize hA : mkAct _ _ g1 = Ac
                          have h76 : Ac.tmps[76]?.getD undef = .bool false := by rw [← hA, mkAct_in2 _ _ _ _ rfl rfl]; exact e76
                          have h84 : Ac.tmps[84]?.getD undef = .bool false := by rw [← hA, mkAct_in2 _ _ _ _ rfl rfl]; exact e84
                          refine step_val (v := .bool false) (w' := w') ?_ ⟨_, rfl, Ext.refl _ _, rfl⟩
                          simp [execOp, h76, h84, Result.andThen, go_sem]
                        case f17 =>
                          intro g1 w' hx hd
                          refine op_run rfl ?_
                          have e73 : g1 73 = .bool true := hd ⟨4, .data⟩ (by simp) rfl
                          have e85 : g1 85 = .bool false := hd ⟨16, .data⟩ (by simp) rfl
                          generalize hA : mkAct _ _ g1 = Ac
                          have h73 : Ac.tmps[73]?.getD undef = .bool true := by rw [← hA, mkAct_in2 _ _ _ _ rfl rfl]; exact e73
                          have h85 : Ac.tmps[85]?.getD undef = .bool false := by rw [← hA, mkAct_in2 _ _ _ _ rfl rfl]; exact e85
                          refine step_val (v := .bool false) (w' := w') ?_ ⟨_, rfl, Ext.refl _ _, rfl⟩
                          simp [execOp, h73, h85, Result.andThen, go_sem]
                      · intro g1 w5 hx5 hd
                        have e86 : g1 86 = .bool false := hd 17 (by decide)
                        unfold mkAct
                        simp only [List.zipIdx_cons, List.zipIdx_nil, List.map_cons, List.map_nil, Nat.zero_add, Nat.reduceAdd, List.contains_cons, List.contains_nil, Nat.reduceBEq, Bool.or_false, Bool.or_true, ↓reduceIte, Bool.false_eq_true]
                        rw [e86]
                        clear hd e86
                        have HX5 := Hid.of (HXW3.out.then0 hx5)
                        clear hx5 cD cj0 cj1 cE
                        go_wp2
                        exact ⟨⟨j + 1, (p : Int), by congr 1, by omega, rfl, HB.out, HX5.out⟩, by simp [intOf]; omega⟩
                · have HB := Hid.of (hβ.out.late HXJ.out (by have := HD.out; omega))
                  go_wp2_with fail
                  rw [← HW3.out]
                  refine wp_region_stepsg [69, 70, 71, 72, 73, 74, 75, 76, 77, 78, 79, 80, 81, 82, 83, 84, 85, 86] (na24lateΦ wr.heap.size D now) (by kernel_rfl) (by kernel_rfl) (fun k y w1 w2 h hx => na24lateΦ_keep wr.heap.size D now k y w1 w2 h hx) ?_ ?_
                  · refine ⟨?f0, ?f1, ?f2, ?f3, ?f4, ?f5, ?f6, ?f7, ?f8, ?f9, ?f10, ?f11, ?f12, ?f13, ?f14, ?f15, ?f16, ?f17, trivial⟩
                    case f0 =>
                      intro g1 w' hx hd
                      refine op_run rfl ?_
                      generalize hA : mkAct _ _ g1 = Ac
                      have h10 : Ac.tmps[10]?.getD undef = .pointer (some ⟨wr.heap.size, 0, none⟩) := by rw [← hA]; exact mkAct_out2 _ _ _ _ _ rfl rfl
                      refine step_val (v := .pointer (some ⟨wr.heap.size, 0, none⟩)) (w' := w') ?_ ⟨_, rfl, Ext.refl _ _, rfl⟩
                      simp [execOp, h10, Result.andThen, go_sem]
                    case f1 =>
                      intro g1 w' hx hd
                      refine op_run rfl ?_
                      have e69 : g1 69 = .pointer (some ⟨wr.heap.size, 0, none⟩) := hd ⟨0, .data⟩ (by simp) rfl
                      generalize hA : mkAct _ _ g1 = Ac
                      have h69 : Ac.tmps[69]?.getD undef = .pointer (some ⟨wr.heap.size, 0, none⟩) := by rw [← hA, mkAct_in2 _ _ _ _ rfl rfl]; exact e69
                      have cX := cD w' hx
                      refine step_val (v := .int .i64 D) (w' := w') ?_ ⟨_, rfl, Ext.refl _ _, rfl⟩
                      simp [execOp, h69, cX, Result.andThen, go_sem]
                    case f2 =>
                      intro g1 w' hx hd
                      refine op_run rfl ?_
                      generalize hA : mkAct _ _ g1 = Ac
                      have h5 : Ac.tmps[5]?.getD undef = .int .i64 now := by rw [← hA]; exact mkAct_out2 _ _ _ _ _ rfl rfl
                      refine step_val (v := .int .i64 now) (w' := w') ?_ ⟨_, rfl, Ext.refl _ _, rfl⟩
                      simp [execOp, h5, Result.andThen, go_sem]
                    case f3 =>
                      intro g1 w' hx hd
                      refine op_run rfl ?_
                      have e70 : g1 70 = .int .i64 D := hd ⟨1, .data⟩ (by simp) rfl
                      have e71 : g1 71 = .int .i64 now := hd ⟨2, .data⟩ (by simp) rfl
                      generalize hA : mkAct _ _ g1 = Ac
                      have h70 : Ac.tmps[70]?.getD undef = .int .i64 D := by rw [← hA, mkAct_in2 _ _ _ _ rfl rfl]; exact e70
                      have h71 : Ac.tmps[71]?.getD undef = .int .i64 now := by rw [← hA, mkAct_in2 _ _ _ _ rfl rfl]; exact e71
                      refine step_val (v := .bool false) (w' := w') ?_ ⟨_, rfl, Ext.refl _ _, rfl⟩
                      simp [execOp, h70, h71, Result.andThen, go_sem, hDn]
                    case f4 =>
                      intro g1 w' hx hd
                      refine op_run rfl ?_
                      have e72 : g1 72 = .bool false := hd ⟨3, .data⟩ (by simp) rfl
                      generalize hA : mkAct _ _ g1 = Ac
                      have h72 : Ac.tmps[72]?.getD undef = .bool false := by rw [← hA, mkAct_in2 _ _ _ _ rfl rfl]; exact e72
                      refine step_val (v := .bool false) (w' := w') ?_ ⟨_, rfl, Ext.refl _ _, rfl⟩
                      simp [execOp, h72, Result.andThen, go_sem]
                    case f5 =>
                      intro g1 w' hx hd
                      have eg : g1 73 = .bool false := hd ⟨4, .guard⟩ (by simp) rfl
                      exact op_no rfl rfl rfl rfl false eg (by decide) ⟨_, rfl, Ext.refl _ _, by first | rfl | trivial⟩
                    case f6 =>
                      intro g1 w' hx hd
                      have eg : g1 73 = .bool false := hd ⟨4, .guard⟩ (by simp) rfl
                      exact op_no rfl rfl rfl rfl false eg (by decide) ⟨_, rfl, Ext.refl _ _, by first | rfl | trivial⟩
                    case f7 =>
                      intro g1 w' hx hd
                      have eg : g1 73 = .bool false := hd ⟨4, .guard⟩ (by simp) rfl
                      exact op_no rfl rfl rfl rfl false eg (by decide) ⟨_, rfl, Ext.refl _ _, by first | rfl | trivial⟩
                    case f8 =>
                      intro g1 w' hx hd
                      have eg : g1 76 = undef := hd ⟨7, .guard⟩ (by simp) rfl
                      exact op_undef rfl rfl rfl rfl eg ⟨_, rfl, Ext.refl _ _, by first | rfl | trivial⟩
                    case f9 =>
                      intro g1 w' hx hd
                      have eg : g1 76 = undef := hd ⟨7, .guard⟩ (by simp) rfl
                      exact op_undef rfl rfl rfl rfl eg ⟨_, rfl, Ext.refl _ _, by first | rfl | trivial⟩
                    case f10 =>
                      intro g1 w' hx hd
                      have eg : g1 76 = undef := hd ⟨7, .guard⟩ (by simp) rfl
                      exact op_undef rfl rfl rfl rfl eg ⟨_, rfl, Ext.refl _ _, by first | rfl | trivial⟩
                    case f11 =>
                      intro g1 w' hx hd
                      have eg : g1 76 = undef := hd ⟨7, .guard⟩ (by simp) rfl
                      exact op_undef rfl rfl rfl rfl eg ⟨_, rfl, Ext.refl _ _, by first | rfl | trivial⟩
                    case f12 =>
                      intro g1 w' hx hd
                      have eg : g1 76 = undef := hd ⟨7, .guard⟩ (by simp) rfl
                      exact op_undef rfl rfl rfl rfl eg ⟨_, rfl, Ext.refl _ _, by first | rfl | trivial⟩
                    case f13 =>
                      intro g1 w' hx hd
                      have eg : g1 76 = undef := hd ⟨7, .guard⟩ (by simp) rfl
                      exact op_undef rfl rfl rfl rfl eg ⟨_, rfl, Ext.refl _ _, by first | rfl | trivial⟩
                    case f14 =>
                      intro g1 w' hx hd
                      have eg : g1 76 = undef := hd ⟨7, .guard⟩ (by simp) rfl
                      exact op_undef rfl rfl rfl rfl eg ⟨_, rfl, Ext.refl _ _, by first | rfl | trivial⟩
                    case f15 =>
                      intro g1 w' hx hd
                      have eg : g1 76 = undef := hd ⟨7, .guard⟩ (by simp) rfl
                      exact op_undef rfl rfl rfl rfl eg ⟨_, rfl, Ext.refl _ _, by first | rfl | trivial⟩
                    case f16 =>
                      intro g1 w' hx hd
                      have eg : g1 73 = .bool false := hd ⟨4, .guard⟩ (by simp) rfl
                      exact op_no rfl rfl rfl rfl false eg (by decide) ⟨_, rfl, Ext.refl _ _, by first | rfl | trivial⟩
                    case f17 =>
                      intro g1 w' hx hd
                      refine op_run rfl ?_
                      have e73 : g1 73 = .bool false := hd ⟨4, .data⟩ (by simp) rfl
                      generalize hA : mkAct _ _ g1 = Ac
                      have h73 : Ac.tmps[73]?.getD undef = .bool false := by rw [← hA, mkAct_in2 _ _ _ _ rfl rfl]; exact e73
                      refine step_val (v := .bool false) (w' := w') ?_ ⟨_, rfl, Ext.refl _ _, rfl⟩
                      simp [execOp, h73, Result.andThen, go_sem]
                  · intro g1 w5 hx5 hd
                    have e86 : g1 86 = .bool false := hd 17 (by decide)
                    unfold mkAct
                    simp only [List.zipIdx_cons, List.zipIdx_nil, List.map_cons, List.map_nil, Nat.zero_add, Nat.reduceAdd, List.contains_cons, List.contains_nil, Nat.reduceBEq, Bool.or_false, Bool.or_true, ↓reduceIte, Bool.false_eq_true]
                    rw [e86]
                    clear hd e86
                    have HX5 := Hid.of (HXW3.out.then0 hx5)
                    clear hx5 cD cj0 cj1
                    go_wp2
                    exact ⟨⟨j + 1, β, by congr 1, by omega, rfl, HB.out, HX5.out⟩, by simp [intOf]; omega⟩
              · obtain rfl : j = A.length := by omega
                have hXr := HXW.out.ext0 hx3.out
                have hOr := HOW.out.keep hx3.out (by simp)
                rcases hβ.out.form with rfl | ⟨p, z, hpj, rfl, hz⟩
                · have cn := xnext_no hXr (by omega) hβ.out.none
                  clear hXr hOr
                  go_wp2_with (first
                    | (go_at_call 15; (with_reducible refine cn.mono ?_); rintro e w4 ⟨rfl, hx4⟩; have HX4 := Hid.of ((hx3.out.then0 hx4).alloc (.cells Ms.zero.cells.toArray 36)); clear hx4 cn)
                    | (refine wpList_new_row rfl rfl 36 _ _ _ rfl rfl rfl rfl _ al_msg Ms.zero.cells rfl (by kernel_rfl) (mcells_one _) rfl rfl ?_))
                  refine wp_region_stepsg [94, 95, 96, 97, 98, 99, 100, 101, 102, 103, 104, 105, 106, 107, 108, 109, 110] (na28noneΦ ()) (by kernel_rfl) (by kernel_rfl) (fun k y w1 w2 h hx => na28noneΦ_keep () k y w1 w2 h hx) ?_ ?_
                  · refine ⟨?f0, ?f1, ?f2, ?f3, ?f4, ?f5, ?f6, ?f7, ?f8, ?f9, ?f10, ?f11, ?f12, ?f13, ?f14, ?f15, ?f16, trivial⟩
                    case f0 =>
                      intro g1 w' hx hd
                      refine op_run rfl ?_
                      generalize hA : mkAct _ _ g1 = Ac
                      have h12 : Ac.tmps[12]?.getD undef = .bool false := by rw [← hA]; exact mkAct_out2 _ _ _ _ _ rfl rfl
                      refine step_val (v := .bool false) (w' := w') ?_ ⟨_, rfl, Ext.refl _ _, rfl⟩
                      simp [execOp, h12, Result.andThen, go_sem]
                    case f1 =>
                      intro g1 w' hx hd
                      refine op_run rfl ?_
                      generalize hA : mkAct _ _ g1 = Ac
                      have h8 : Ac.tmps[8]?.getD undef = .int .i64 (-1) := by rw [← hA]; exact mkAct_out2 _ _ _ _ _ rfl rfl
                      refine step_val (v := .int .i64 (-1)) (w' := w') ?_ ⟨_, rfl, Ext.refl _ _, rfl⟩
                      simp [execOp, h8, Result.andThen, go_sem]
                    case f2 =>
                      intro g1 w' hx hd
                      refine op_run rfl ?_
                      have e95 : g1 95 = .int .i64 (-1) := hd ⟨1, .data⟩ (by simp) rfl
                      generalize hA : mkAct _ _ g1 = Ac
                      have h95 : Ac.tmps[95]?.getD undef = .int .i64 (-1) := by rw [← hA, mkAct_in2 _ _ _ _ rfl rfl]; exact e95
                      refine step_val (v := .bool false) (w' := w') ?_ ⟨_, rfl, Ext.refl _ _, rfl⟩
                      simp [execOp, h95, Result.andThen, go_sem]
                    case f3 =>
                      intro g1 w' hx hd
                      refine op_run rfl ?_
                      have e94 : g1 94 = .bool false := hd ⟨0, .data⟩ (by simp) rfl
                      have e96 : g1 96 = .bool false := hd ⟨2, .data⟩ (by simp) rfl
                      generalize hA : mkAct _ _ g1 = Ac
                      have h94 : Ac.tmps[94]?.getD undef = .bool false := by rw [← hA, mkAct_in2 _ _ _ _ rfl rfl]; exact e94
                      have h96 : Ac.tmps[96]?.getD undef = .bool false := by rw [← hA, mkAct_in2 _ _ _ _ rfl rfl]; exact e96
                      refine step_val (v := .bool false) (w' := w') ?_ ⟨_, rfl, Ext.refl _ _, rfl⟩
                      simp [execOp, h94, h96, Result.andThen, go_sem]
                    case f4 =>
                      intro g1 w' hx hd
                      refine op_run rfl ?_
                      have e97 : g1 97 = .bool false := hd ⟨3, .data⟩ (by simp) rfl
                      generalize hA : mkAct _ _ g1 = Ac
                      have h97 : Ac.tmps[97]?.getD undef = .bool false := by rw [← hA, mkAct_in2 _ _ _ _ rfl rfl]; exact e97
                      refine step_val (v := .bool false) (w' := w') ?_ ⟨_, rfl, Ext.refl _ _, rfl⟩
                      simp [execOp, h97, Result.andThen, go_sem]
                    case f5 =>
                      intro g1 w' hx hd
                      have eg : g1 98 = .bool false := hd ⟨4, .guard⟩ (by simp) rfl
                      refine op_yes rfl rfl rfl rfl eg ?_
                      generalize hA : mkAct _ _ g1 = Ac
                      have h12 : Ac.tmps[12]?.getD undef = .bool false := by rw [← hA]; exact mkAct_out2 _ _ _ _ _ rfl rfl
                      refine step_val (v := .bool false) (w' := w') ?_ ⟨_, rfl, Ext.refl _ _, rfl⟩
                      simp [execOp, h12, Result.andThen, go_sem]
                    case f6 =>
                      intro g1 w' hx hd
                      have eg : g1 98 = .bool false := hd ⟨4, .guard⟩ (by simp) rfl
                      refine op_yes rfl rfl rfl rfl eg ?_
                      have e99 : g1 99 = .bool false := hd ⟨5, .data⟩ (by simp) rfl
                      generalize hA : mkAct _ _ g1 = Ac
                      have h99 : Ac.tmps[99]?.getD undef = .bool false := by rw [← hA, mkAct_in2 _ _ _ _ rfl rfl]; exact e99
                      refine step_val (v := .bool false) (w' := w') ?_ ⟨_, rfl, Ext.refl _ _, rfl⟩
                      simp [execOp, h99, Result.andThen, go_sem]
                    case f7 =>
                      intro g1 w' hx hd
                      have eg : g1 100 = .bool false := hd ⟨6, .guard⟩ (by simp) rfl
                      exact op_no rfl rfl rfl rfl false eg (by decide) ⟨_, rfl, Ext.refl _ _, by first | rfl | trivial⟩
                    case f8 =>
                      intro g1 w' hx hd
                      have eg : g1 100 = .bool false := hd ⟨6, .guard⟩ (by simp) rfl
                      exact op_no rfl rfl rfl rfl false eg (by decide) ⟨_, rfl, Ext.refl _ _, by first | rfl | trivial⟩
                    case f9 =>
                      intro g1 w' hx hd
                      have eg : g1 100 = .bool false := hd ⟨6, .guard⟩ (by simp) rfl
                      exact op_no rfl rfl rfl rfl false eg (by decide) ⟨_, rfl, Ext.refl _ _, by first | rfl | trivial⟩
                    case f10 =>
                      intro g1 w' hx hd
                      have eg : g1 100 = .bool false := hd ⟨6, .guard⟩ (by simp) rfl
                      exact op_no rfl rfl rfl rfl false eg (by decide) ⟨_, rfl, Ext.refl _ _, by first | rfl | trivial⟩
                    case f11 =>
                      intro g1 w' hx hd
                      have eg : g1 100 = .bool false := hd ⟨6, .guard⟩ (by simp) rfl
                      exact op_no rfl rfl rfl rfl false eg (by decide) ⟨_, rfl, Ext.refl _ _, by first | rfl | trivial⟩
                    case f12 =>
                      intro g1 w' hx hd
                      have eg : g1 100 = .bool false := hd ⟨6, .guard⟩ (by simp) rfl
                      exact op_no rfl rfl rfl rfl false eg (by decide) ⟨_, rfl, Ext.refl _ _, by first | rfl | trivial⟩
                    case f13 =>
                      intro g1 w' hx hd
                      have eg : g1 100 = .bool false := hd ⟨6, .guard⟩ (by simp) rfl
                      exact op_no rfl rfl rfl rfl false eg (by decide) ⟨_, rfl, Ext.refl _ _, by first | rfl | trivial⟩
                    case f14 =>
                      intro g1 w' hx hd
                      have eg : g1 100 = .bool false := hd ⟨6, .guard⟩ (by simp) rfl
                      exact op_no rfl rfl rfl rfl false eg (by decide) ⟨_, rfl, Ext.refl _ _, by first | rfl | trivial⟩
                    case f15 =>
                      intro g1 w' hx hd
                      have eg : g1 98 = .bool false := hd ⟨4, .guard⟩ (by simp) rfl
                      refine op_yes rfl rfl rfl rfl eg ?_
                      have e100 : g1 100 = .bool false := hd ⟨6, .data⟩ (by simp) rfl
                      generalize hA : mkAct _ _ g1 = Ac
                      have h100 : Ac.tmps[100]?.getD undef = .bool false := by rw [← hA, mkAct_in2 _ _ _ _ rfl rfl]; exact e100
                      refine step_val (v := .bool false) (w' := w') ?_ ⟨_, rfl, Ext.refl _ _, rfl⟩
                      simp [execOp, h100, Result.andThen, go_sem]
                    case f16 =>
                      intro g1 w' hx hd
                      refine op_run rfl ?_
                      have e98 : g1 98 = .bool false := hd ⟨4, .data⟩ (by simp) rfl
                      have e109 : g1 109 = .bool false := hd ⟨15, .data⟩ (by simp) rfl
                      generalize hA : mkAct _ _ g1 = Ac
                      have h98 : Ac.tmps[98]?.getD undef = .bool false := by rw [← hA, mkAct_in2 _ _ _ _ rfl rfl]; exact e98
                      have h109 : Ac.tmps[109]?.getD undef = .bool false := by rw [← hA, mkAct_in2 _ _ _ _ rfl rfl]; exact e109
                      refine step_val (v := .bool false) (w' := w') ?_ ⟨_, rfl, Ext.refl _ _, rfl⟩
                      simp [execOp, h98, h109, Result.andThen, go_sem]
                  · intro g1 w5 hx5 hd
                    have e110 : g1 110 = .bool false := hd 16 (by decide)
                    unfold mkAct
                    simp only [List.zipIdx_cons, List.zipIdx_nil, List.map_cons, List.map_nil, Nat.zero_add, Nat.reduceAdd, List.contains_cons, List.contains_nil, Nat.reduceBEq, Bool.or_false, Bool.or_true, ↓reduceIte, Bool.false_eq_true]
                    rw [e110]
                    clear hd e110
                    have h6 := HXW.out.ext0 (HX4.out.then0 hx5)
                    have HX6 := Hid.of (h6.mono (O' := vblocks (.slice av A.length cv)) (fun q hq => by simp [hq]))
                    have HO6 := Hid.of (HOW.out.keep (HX4.out.then0 hx5) (by simp))
                    clear hx5 h6
                    go_wp2_with fail
                    have cl := xlen HX6.out
                    have cw := xnow HX6.out
                    go_wp2_with (first
                      | (go_at_call 14; (with_reducible refine cl.mono ?_); rintro e w8 ⟨rfl, rfl⟩)
                      | (go_at_call 18; (with_reducible refine cw.mono ?_); rintro e w9 ⟨rfl, rfl⟩))
                    exact ⟨⟨k + 1, now, s, A, by congr 1, by omega, rfl, ⟨by omega, by omega, by omega, by omega, by omega⟩, HO6.out, HX6.out, hV.out, hS.out⟩, by simp [intOf]; omega⟩
                · have hpn : p < A.length := hpj
                  obtain ⟨y, hy1, hyA, hyd⟩ := hβ.out.due
                  have cn := xnext_yes hXr (by omega) y hyA hyd
                  clear hXr
                  have HOR := Hid.of hOr
                  have HZ := Hid.of hz
                  clear hOr hz hy1 hyA hyd
                  obtain ⟨I, hI⟩ : ∃ I, I = z.m.index := ⟨_, rfl⟩
                  have HI := Hid.of hI
                  clear hI
                  go_wp2_with (first
                    | (go_at_call 15; (with_reducible refine cn.mono ?_); rintro e w4 ⟨x, A5, hp, hm, hd, rfl, h5, f5⟩; obtain ⟨hxz, hp5⟩ := hβ.out.next hS.out HZ.out hp hm; have HP5 := Hid.of (h5.perm hp5); have HXZ := Hid.of hxz; have HF5 := Hid.of f5; clear h5 f5 hp hm hd hp5 hxz cn)
                    | (refine wpList_new_row rfl rfl 36 _ _ _ rfl rfl rfl rfl _ al_msg x.m.cells rfl (by kernel_rfl) (mcells_one _) rfl rfl ?_))
                  have cM : ∀ w', Ext [] (w4.alloc (.cells x.m.cells.toArray 36)) w' → w'.cell? ⟨w4.heap.size, 4, none⟩ = some (.int .i64 I) := fun w' hx => by
                    have := ((Blk.new w4 36 x.m.cells.toArray).keep hx (by simp)).c 4
                    rw [HI.out, ← HXZ.out]
                    exact this
                  have HO4 := Hid.of (show Own w4 _ _ _ _ _ from by obtain ⟨F, hxF, hF⟩ := HF5.out; exact HOR.out.keep hxF (fun q hq => hF q (by simp [hq])))
                  obtain ⟨q, off, rfl, hcp⟩ := item_at HO4.out p hpn
                  have cI : ∀ w', Ext [] (w4.alloc (.cells x.m.cells.toArray 36)) w' → w'.cell? ⟨q, off + p * 2 + 1, none⟩ = some (.int .i64 I) := fun w' hx => by
                    have h1 := (hcp w' (((Ext.refl [] w4).alloc _).then0 hx)).2
                    have hz := HZ.out
                    rw [List.getElem?_eq_getElem hpn] at hz
                    rw [Option.some.inj hz, ← HI.out] at h1
                    exact h1
                  clear hcp
                  refine wp_region_stepsg [94, 95, 96, 97, 98, 99, 100, 101, 102, 103, 104, 105, 106, 107, 108, 109, 110] (na28someΦ w4.heap.size q off A.length cv p I) (by kernel_rfl) (by kernel_rfl) (fun k y w1 w2 h hx => na28someΦ_keep w4.heap.size q off A.length cv p I k y w1 w2 h hx) ?_ ?_
                  · refine ⟨?f0, ?f1, ?f2, ?f3, ?f4, ?f5, ?f6, ?f7, ?f8, ?f9, ?f10, ?f11, ?f12, ?f13, ?f14, ?f15, ?f16, trivial⟩
                    case f0 =>
                      intro g1 w' hx hd
                      refine op_run rfl ?_
                      generalize hA : mkAct _ _ g1 = Ac
                      have h12 : Ac.tmps[12]?.getD undef = .bool true := by rw [← hA]; exact mkAct_out2 _ _ _ _ _ rfl rfl
                      refine step_val (v := .bool true) (w' := w') ?_ ⟨_, rfl, Ext.refl _ _, rfl⟩
                      simp [execOp, h12, Result.andThen, go_sem]
                    case f1 =>
                      intro g1 w' hx hd
                      refine op_run rfl ?_
                      generalize hA : mkAct _ _ g1 = Ac
                      have h8 : Ac.tmps[8]?.getD undef = .int .i64 (p : Int) := by rw [← hA]; exact mkAct_out2 _ _ _ _ _ rfl rfl
                      refine step_val (v := .int .i64 (p : Int)) (w' := w') ?_ ⟨_, rfl, Ext.refl _ _, rfl⟩
                      simp [execOp, h8, Result.andThen, go_sem]
                    case f2 =>
                      intro g1 w' hx hd
                      refine op_run rfl ?_
                      have e95 : g1 95 = .int .i64 (p : Int) := hd ⟨1, .data⟩ (by simp) rfl
                      generalize hA : mkAct _ _ g1 = Ac
                      have h95 : Ac.tmps[95]?.getD undef = .int .i64 (p : Int) := by rw [← hA, mkAct_in2 _ _ _ _ rfl rfl]; exact e95
                      refine step_val (v := .bool true) (w' := w') ?_ ⟨_, rfl, Ext.refl _ _, rfl⟩
                      simp [execOp, h95, Result.andThen, go_sem]
                    case f3 =>
                      intro g1 w' hx hd
                      refine op_run rfl ?_
                      have e94 : g1 94 = .bool true := hd ⟨0, .data⟩ (by simp) rfl
                      have e96 : g1 96 = .bool true := hd ⟨2, .data⟩ (by simp) rfl
                      generalize hA : mkAct _ _ g1 = Ac
                      have h94 : Ac.tmps[94]?.getD undef = .bool true := by rw [← hA, mkAct_in2 _ _ _ _ rfl rfl]; exact e94
                      have h96 : Ac.tmps[96]?.getD undef = .bool true := by rw [← hA, mkAct_in2 _ _ _ _ rfl rfl]; exact e96
                      refine step_val (v := .bool false) (w' := w') ?_ ⟨_, rfl, Ext.refl _ _, rfl⟩
                      simp [execOp, h94, h96, Result.andThen, go_sem]
                    case f4 =>
                      intro g1 w' hx hd
                      refine op_run rfl ?_
                      have e97 : g1 97 = .bool false := hd ⟨3, .data⟩ (by simp) rfl
                      generalize hA : mkAct _ _ g1 = Ac
                      have h97 : Ac.tmps[97]?.getD undef = .bool false := by rw [← hA, mkAct_in2 _ _ _ _ rfl rfl]; exact e97
                      refine step_val (v := .bool false) (w' := w') ?_ ⟨_, rfl, Ext.refl _ _, rfl⟩
                      simp [execOp, h97, Result.andThen, go_sem]
                    case f5 =>
                      intro g1 w' hx hd
                      have eg : g1 98 = .bool false := hd ⟨4, .guard⟩ (by simp) rfl
                      refine op_yes rfl rfl rfl rfl eg ?_
                      generalize hA : mkAct _ _ g1 = Ac
                      have h12 : Ac.tmps[12]?.getD undef = .bool true := by rw [← hA]; exact mkAct_out2 _ _ _ _ _ rfl rfl
                      refine step_val (v := .bool true) (w' := w') ?_ ⟨_, rfl, Ext.refl _ _, rfl⟩
                      simp [execOp, h12, Result.andThen, go_sem]
                    case f6 =>
                      intro g1 w' hx hd
                      have eg : g1 98 = .bool false := hd ⟨4, .guard⟩ (by simp) rfl
                      refine op_yes rfl rfl rfl rfl eg ?_
                      have e99 : g1 99 = .bool true := hd ⟨5, .data⟩ (by simp) rfl
                      generalize hA : mkAct _ _ g1 = Ac
                      have h99 : Ac.tmps[99]?.getD undef = .bool true := by rw [← hA, mkAct_in2 _ _ _ _ rfl rfl]; exact e99
                      refine step_val (v := .bool true) (w' := w') ?_ ⟨_, rfl, Ext.refl _ _, rfl⟩
                      simp [execOp, h99, Result.andThen, go_sem]
                    case f7 =>
                      intro g1 w' hx hd
                      have eg : g1 100 = .bool true := hd ⟨6, .guard⟩ (by simp) rfl
                      refine op_yes rfl rfl rfl rfl eg ?_
                      generalize hA : mkAct _ _ g1 = Ac
                      have h11 : Ac.tmps[11]?.getD undef = .pointer (some ⟨w4.heap.size, 0, none⟩) := by rw [← hA]; exact mkAct_out2 _ _ _ _ _ rfl rfl
                      refine step_val (v := .pointer (some ⟨w4.heap.size, 4, none⟩)) (w' := w') ?_ ⟨_, rfl, Ext.refl _ _, rfl⟩
                      simp [execOp, h11, Result.andThen, go_sem]
                    case f8 =>
                      intro g1 w' hx hd
                      have eg : g1 100 = .bool true := hd ⟨6, .guard⟩ (by simp) rfl
                      refine op_yes rfl rfl rfl rfl eg ?_
                      have e101 : g1 101 = .pointer (some ⟨w4.heap.size, 4, none⟩) := hd ⟨7, .data⟩ (by simp) rfl
                      generalize hA : mkAct _ _ g1 = Ac
                      have h101 : Ac.tmps[101]?.getD undef = .pointer (some ⟨w4.heap.size, 4, none⟩) := by rw [← hA, mkAct_in2 _ _ _ _ rfl rfl]; exact e101
                      have cX := cM w' hx
                      refine step_val (v := .int .i64 I) (w' := w') ?_ ⟨_, rfl, Ext.refl _ _, rfl⟩
                      simp [execOp, h101, cX, Result.andThen, go_sem]
                    case f9 =>
                      intro g1 w' hx hd
                      have eg : g1 100 = .bool true := hd ⟨6, .guard⟩ (by simp) rfl
                      refine op_yes rfl rfl rfl rfl eg ?_
                      generalize hA : mkAct _ _ g1 = Ac
                      have h4 : Ac.tmps[4]?.getD undef = .slice (some ⟨q, off, none⟩) A.length cv := by rw [← hA]; exact mkAct_out2 _ _ _ _ _ rfl rfl
                      refine step_val (v := .slice (some ⟨q, off, none⟩) A.length cv) (w' := w') ?_ ⟨_, rfl, Ext.refl _ _, rfl⟩
                      simp [execOp, h4, Result.andThen, go_sem]
                    case f10 =>
                      intro g1 w' hx hd
                      have eg : g1 100 = .bool true := hd ⟨6, .guard⟩ (by simp) rfl
                      refine op_yes rfl rfl rfl rfl eg ?_
                      generalize hA : mkAct _ _ g1 = Ac
                      have h8 : Ac.tmps[8]?.getD undef = .int .i64 (p : Int) := by rw [← hA]; exact mkAct_out2 _ _ _ _ _ rfl rfl
                      refine step_val (v := .int .i64 (p : Int)) (w' := w') ?_ ⟨_, rfl, Ext.refl _ _, rfl⟩
                      simp [execOp, h8, Result.andThen, go_sem]
                    case f11 =>
                      intro g1 w' hx hd
                      have eg : g1 100 = .bool true := hd ⟨6, .guard⟩ (by simp) rfl
                      refine op_yes rfl rfl rfl rfl eg ?_
                      have e103 : g1 103 = .slice (some ⟨q, off, none⟩) A.length cv := hd ⟨9, .data⟩ (by simp) rfl
                      have e104 : g1 104 = .int .i64 (p : Int) := hd ⟨10, .data⟩ (by simp) rfl
                      generalize hA : mkAct _ _ g1 = Ac
                      have h103 : Ac.tmps[103]?.getD undef = .slice (some ⟨q, off, none⟩) A.length cv := by rw [← hA, mkAct_in2 _ _ _ _ rfl rfl]; exact e103
                      have h104 : Ac.tmps[104]?.getD undef = .int .i64 (p : Int) := by rw [← hA, mkAct_in2 _ _ _ _ rfl rfl]; exact e104
                      refine step_val (v := .pointer (some ⟨q, off + p * 2, none⟩)) (w' := w') ?_ ⟨_, rfl, Ext.refl _ _, rfl⟩
                      simp [execOp, h103, h104, Result.andThen, go_sem, hpn]
                    case f12 =>
                      intro g1 w' hx hd
                      have eg : g1 100 = .bool true := hd ⟨6, .guard⟩ (by simp) rfl
                      refine op_yes rfl rfl rfl rfl eg ?_
                      have e105 : g1 105 = .pointer (some ⟨q, off + p * 2, none⟩) := hd ⟨11, .data⟩ (by simp) rfl
                      generalize hA : mkAct _ _ g1 = Ac
                      have h105 : Ac.tmps[105]?.getD undef = .pointer (some ⟨q, off + p * 2, none⟩) := by rw [← hA, mkAct_in2 _ _ _ _ rfl rfl]; exact e105
                      refine step_val (v := .pointer (some ⟨q, off + p * 2 + 1, none⟩)) (w' := w') ?_ ⟨_, rfl, Ext.refl _ _, rfl⟩
                      simp [execOp, h105, Result.andThen, go_sem]
                    case f13 =>
                      intro g1 w' hx hd
                      have eg : g1 100 = .bool true := hd ⟨6, .guard⟩ (by simp) rfl
                      refine op_yes rfl rfl rfl rfl eg ?_
                      have e106 : g1 106 = .pointer (some ⟨q, off + p * 2 + 1, none⟩) := hd ⟨12, .data⟩ (by simp) rfl
                      generalize hA : mkAct _ _ g1 = Ac
                      have h106 : Ac.tmps[106]?.getD undef = .pointer (some ⟨q, off + p * 2 + 1, none⟩) := by rw [← hA, mkAct_in2 _ _ _ _ rfl rfl]; exact e106
                      have cX := cI w' hx
                      refine step_val (v := .int .i64 I) (w' := w') ?_ ⟨_, rfl, Ext.refl _ _, rfl⟩
                      simp [execOp, h106, cX, Result.andThen, go_sem]
                    case f14 =>
                      intro g1 w' hx hd
                      have eg : g1 100 = .bool true := hd ⟨6, .guard⟩ (by simp) rfl
                      refine op_yes rfl rfl rfl rfl eg ?_
                      have e102 : g1 102 = .int .i64 I := hd ⟨8, .data⟩ (by simp) rfl
                      have e107 : g1 107 = .int .i64 I := hd ⟨13, .data⟩ (by simp) rfl
                      generalize hA : mkAct _ _ g1 = Ac
                      have h102 : Ac.tmps[102]?.getD undef = .int .i64 I := by rw [← hA, mkAct_in2 _ _ _ _ rfl rfl]; exact e102
                      have h107 : Ac.tmps[107]?.getD undef = .int .i64 I := by rw [← hA, mkAct_in2 _ _ _ _ rfl rfl]; exact e107
                      refine step_val (v := .bool false) (w' := w') ?_ ⟨_, rfl, Ext.refl _ _, rfl⟩
                      simp [execOp, h102, h107, Result.andThen, go_sem]
                    case f15 =>
                      intro g1 w' hx hd
                      have eg : g1 98 = .bool false := hd ⟨4, .guard⟩ (by simp) rfl
                      refine op_yes rfl rfl rfl rfl eg ?_
                      have e100 : g1 100 = .bool true := hd ⟨6, .data⟩ (by simp) rfl
                      have e108 : g1 108 = .bool false := hd ⟨14, .data⟩ (by simp) rfl
                      generalize hA : mkAct _ _ g1 = Ac
                      have h100 : Ac.tmps[100]?.getD undef = .bool true := by rw [← hA, mkAct_in2 _ _ _ _ rfl rfl]; exact e100
                      have h108 : Ac.tmps[108]?.getD undef = .bool false := by rw [← hA, mkAct_in2 _ _ _ _ rfl rfl]; exact e108
                      refine step_val (v := .bool false) (w' := w') ?_ ⟨_, rfl, Ext.refl _ _, rfl⟩
                      simp [execOp, h100, h108, Result.andThen, go_sem]
                    case f16 =>
                      intro g1 w' hx hd
                      refine op_run rfl ?_
                      have e98 : g1 98 = .bool false := hd ⟨4, .data⟩ (by simp) rfl
                      have e109 : g1 109 = .bool false := hd ⟨15, .data⟩ (by simp) rfl
                      generalize hA : mkAct _ _ g1 = Ac
                      have h98 : Ac.tmps[98]?.getD undef = .bool false := by rw [← hA, mkAct_in2 _ _ _ _ rfl rfl]; exact e98
                      have h109 : Ac.tmps[109]?.getD undef = .bool false := by rw [← hA, mkAct_in2 _ _ _ _ rfl rfl]; exact e109
                      refine step_val (v := .bool false) (w' := w') ?_ ⟨_, rfl, Ext.refl _ _, rfl⟩
                      simp [execOp, h98, h109, Result.andThen, go_sem]
                  · intro g1 w5 hx5 hd
                    have e110 : g1 110 = .bool false := hd 16 (by decide)
                    unfold mkAct
                    simp only [List.zipIdx_cons, List.zipIdx_nil, List.map_cons, List.map_nil, Nat.zero_add, Nat.reduceAdd, List.contains_cons, List.contains_nil, Nat.reduceBEq, Bool.or_false, Bool.or_true, ↓reduceIte, Bool.false_eq_true]
                    rw [e110]
                    clear hd e110
                    have hx45 := ((Ext.refl [] w4).alloc (.cells x.m.cells.toArray 36)).then0 hx5
                    have HX5 := Hid.of ((HP5.out.ext0 hx45).mono (O' := vblocks (.slice (some ⟨q, off, none⟩) A.length cv)) (fun q hq => by simp [hq]))
                    have hO5 := HO4.out.keep hx45 (by simp)
                    have hq5 : q < w5.heap.size := hO5.lt q (by simp [vblocks])
                    have hxd : Ext [] w5 (w5.drew.alloc (.cells #[] 51)) := ((Ext.refl [] w5).drew).alloc _
                    have hO31 := Own.lit w5.drew #[] 51 2 0 rfl (by unfold maxLen; omega)
                    have hR1 := ((hO5.take p (by omega)).rd).keep hxd (by simp)
                    have hR2 := (hO5.rd.dropn (p + 1) (by omega)).keep hxd (by simp)
                    have hone : ∀ u ∈ itms A, u.oneCell' = true := by
                      intro u hu
                      obtain ⟨l, _, hu⟩ := List.mem_flatMap.1 hu
                      simp only [itm, List.mem_cons, List.not_mem_nil, or_false] at hu
                      rcases hu with rfl | rfl <;> rfl
                    have hone1 : ∀ u ∈ (itms A).take (p * 2), u.oneCell' = true := fun u hu => hone u (List.mem_of_mem_take hu)
                    have hone2 : ∀ u ∈ (itms A).drop ((p + 1) * 2), u.oneCell' = true := fun u hu => hone u (List.mem_of_mem_drop hu)
                    rw [World.size_drew] at hO31
                    have HO5 := Hid.of hO5
                    clear hO5 hx45 hx5 hone cM cI
                    have hcap : p ≤ A.length := by omega
                    have hcap4 : A.length ≤ cv := by have := HO5.out.rd.len; omega
                    have hcap2 : p ≤ cv := by omega
                    have hcap3 : p + 1 ≤ A.length := by omega
                    have hcap5 : (p : Int) + 1 ≤ (A.length : Int) := by omega
                    have hcap6 : (0 : Int) ≤ (p : Int) + 1 := by omega
                    have hwr : IntKind.i64.wrap ((p : Int) + 1) = (p : Int) + 1 := IntWalk.i64_in _ ⟨by omega, by omega⟩
                    have htn : ((p : Int) + 1).toNat = p + 1 := by omega
                    obtain ⟨o2, hif, hR3⟩ : ∃ o2, (if cv = p + 1 then (some ⟨q, off, none⟩ : Option Addr) else some ⟨q, off + (p + 1) * 2, none⟩) = some ⟨q, o2, none⟩ ∧ Rd (w5.drew.alloc (.cells #[] 51)) 2 (.slice (some ⟨q, o2, none⟩) (A.length - (p + 1)) (cv - (p + 1))) (A.length - (p + 1)) ((itms A).drop ((p + 1) * 2)) := by
                      by_cases hce : cv = p + 1
                      · refine ⟨off, by rw [if_pos hce], ?_⟩
                        have e1 : A.length - (p + 1) = 0 := by omega
                        have e2 : cv - (p + 1) = 0 := by omega
                        have e3 : (itms A).drop ((p + 1) * 2) = [] := List.drop_eq_nil_of_le (by rw [itms_len]; omega)
                        rw [e1, e2, e3]
                        exact ⟨rfl, _, _, rfl, Nat.le_refl _, Nat.zero_le _, (fun h => by cases h), fun g hg j u hu => by simp at hu⟩
                      · exact ⟨off + (p + 1) * 2, by rw [if_neg hce], hR2⟩
                    clear hR2
                    go_wp2_with fail
                    go_region_law (first
                      | (refine step_append rfl _ _ _ rfl 51 _ 2 16 el_item (.slice (some ⟨w5.heap.size, 0, none⟩) 0 0) 0 [] rfl hO31 (.slice (some ⟨q, off, none⟩) p cv) p _ rfl hR1 hone1 (by omega) (by unfold maxLen; omega) ?_; intro v6 w6 ho6 hx6 hv6; obtain ⟨a6, c6, rfl⟩ := Rd.isSlice (Own.rd ho6); rw [Nat.zero_add, List.nil_append] at ho6)
                      | (refine step_append rfl _ _ _ rfl 51 _ 2 16 el_item (.slice a6 p c6) p _ rfl ho6 (.slice (some ⟨q, o2, none⟩) (A.length - (p + 1)) (cv - (p + 1))) (A.length - (p + 1)) _ rfl (hR3.keep hx6 (by simp [vblocks]; omega)) hone2 (by omega) (by unfold maxLen; omega) ?_; intro v7 w7 ho7 hx7 hv7; obtain ⟨a7, c7, rfl⟩ := Rd.isSlice (Own.rd ho7)))
                    all_goals (
                      have hlen7 : (A.eraseIdx p).length = p + (A.length - (p + 1)) := by rw [List.length_eraseIdx, if_pos hpn]; omega
                      have hIt : itms (A.eraseIdx p) = (itms A).take (p * 2) ++ (itms A).drop ((p + 1) * 2) := itms_erase A p
                      have hS7 := hS.out.erase p
                      have hX7 := HX5.out
                      generalize A.eraseIdx p = A7 at hlen7 hIt hS7 hX7
                      have hxb : ∀ k ∈ vblocks (.slice a6 p c6), w5.heap.size ≤ k := by
                        intro k hk
                        rw [Nat.zero_add] at hv6
                        rcases hv6 with h | h
                        · rw [h] at hk; simp [vblocks] at hk; omega
                        · rw [h] at hk; simp at hk; omega
                      have hx57 : Ext [] w5 w7 := (hxd.trans hx6 (fun k hk => .inr (by simp [vblocks] at hk; omega))).trans hx7 (fun k hk => .inr (hxb k hk))
                      have hsz6 := (hxd.trans hx6 (fun k hk => .inr (by simp [vblocks] at hk; omega)) : Ext [] w5 w6).size
                      have hb7 : ∀ k ∈ vblocks (.slice a7 (p + (A.length - (p + 1))) c7), w5.heap.size ≤ k := by
                        intro k hk
                        rcases hv7 with h | h
                        · rw [h] at hk; exact hxb k hk
                        · rw [h] at hk; simp at hk; omega
                      have HX7 := ((hX7.mono (O' := []) (by simp)).turn hx57 (by simp) (vblocks (.slice a7 (p + (A.length - (p + 1))) c7)) (fun q hq => ⟨.inr (hb7 q hq), ho7.lt q hq⟩))
                      have HV7 := Hid.of (show ∀ q ∈ vblocks (.slice a7 (p + (A.length - (p + 1))) c7), w.heap.size ≤ q from fun q hq => by have := hb7 q hq; have := hX7.x.size; omega)
                      have HO7 := Hid.of (show Own w7 51 2 (.slice a7 (p + (A.length - (p + 1))) c7) A7.length (itms A7) by rw [hlen7, hIt]; exact ho7)
                      have HS7 := Hid.of hS7
                      clear hX7 hS7 hIt hxb hx57 hsz6 hb7 ho7 hx7 hv7 ho6 hx6 hv6 hxd hO31 hR1 hR3 hone1 hone2 hif htn hwr
                      have cl := xlen HX7
                      have cw := xnow HX7
                      go_wp2_with (first
                        | (go_at_call 14; (with_reducible refine cl.mono ?_); rintro e w8 ⟨rfl, rfl⟩)
                        | (go_at_call 18; (with_reducible refine cw.mono ?_); rintro e w9 ⟨rfl, rfl⟩))
                      exact ⟨⟨k + 1, now, s, A7, by congr 1, by omega, rfl, ⟨by omega, by omega, by omega, by omega, by omega⟩, HO7.out, HX7, HV7.out, HS7.out⟩, by simp [intOf]; omega⟩)
          · have hq2 : (IntKind.u64.wrap ak).tmod 6 = 3 := by rw [hq, hK]; rfl
            clear hq hK hK6
            have HIT := Hid.of (item_at hOW)
            have HXW := Hid.of hXW
            have HOW := Hid.of hOW
            clear hOW hXW
            go_wp2
            go_loopw [8, 64] (fun u8 u64 wr => ∃ (j : Nat) (β : Int), u64 = .int .i64 (j : Int) ∧ j ≤ A.length ∧ u8 = .int .i64 β ∧ Hid (BestAt now A j β) ∧ Hid (Ext [] W wr)) (fun _ u64 _ => A.length - (intOf u64).toNat)
            case atStart => exact ⟨0, -1, rfl, by omega, rfl, BestAt.zero _ _, show Ext _ _ _ by rw [HWW.out]; exact Ext.refl _ _⟩
            case round =>
              obtain ⟨j, β, rfl, hj, rfl, hβ, hx3⟩ := hrel
              by_cases hj2 : j < A.length
              · obtain ⟨q, off, rfl, hci⟩ := HIT.out j hj2
                obtain ⟨cj0, cj1⟩ := hci wr hx3.out
                have hxj : A[j]? = some A[j] := List.getElem?_eq_getElem hj2
                generalize hxe : A[j] = x at cj0 cj1 hxj
                obtain ⟨D, hD⟩ : ∃ D, D = x.due := ⟨_, rfl⟩
                obtain ⟨I, hI⟩ : ∃ I, I = x.m.index := ⟨_, rfl⟩
                rw [← hD] at cj0
                rw [← hI] at cj1
                obtain ⟨W3, hW3⟩ : ∃ W3, W3 = wr.alloc (.cells #[.int .i64 D, .int .i64 I] 51) := ⟨_, rfl⟩
                have hxW3 : Ext [] W W3 := by rw [hW3]; exact hx3.out.alloc _
                have cD : ∀ w', Ext [] W3 w' → w'.cell? ⟨wr.heap.size, 0, none⟩ = some (.int .i64 D) := fun w' hx => by
                  have : Blk W3 wr.heap.size 51 [.int .i64 D, .int .i64 I] := by rw [hW3]; exact Blk.new _ _ #[.int .i64 D, .int .i64 I]
                  exact (this.keep hx (by simp)).c 0
                have HW3 := Hid.of hW3
                have HXJ := Hid.of hxj
                have HD := Hid.of hD
                have HXW3 := Hid.of hxW3
                have HCI := Hid.of hci
                clear hW3 hxj hD hI hxW3 hci hxe
                by_cases hDn : D ≤ now
                · rcases hβ.out.form with rfl | ⟨p, z, hpj, rfl, hz⟩
                  · have HB := Hid.of (hβ.out.first HXJ.out (by have := HD.out; omega))
                    go_wp2_with fail
                    rw [← HW3.out]
                    refine wp_region_stepsg [69, 70, 71, 72, 73, 74, 75, 76, 77, 78, 79, 80, 81, 82, 83, 84, 85, 86] (na24firstΦ wr.heap.size D now) (by kernel_rfl) (by kernel_rfl) (fun k y w1 w2 h hx => na24firstΦ_keep wr.heap.size D now k y w1 w2 h hx) ?_ ?_
                    · refine ⟨?f0, ?f1, ?f2, ?f3, ?f4, ?f5, ?f6, ?f7, ?f8, ?f9, ?f10, ?f11, ?f12, ?f13, ?f14, ?f15, ?f16, ?f17, trivial⟩
                      case f0 =>
                        intro g1 w' hx hd
                        refine op_run rfl ?_
                        generalize hA : mkAct _ _ g1 = Ac
                        have h10 : Ac.tmps[10]?.getD undef = .pointer (some ⟨wr.heap.size, 0, none⟩) := by rw [← hA]; exact mkAct_out2 _ _ _ _ _ rfl rfl
                        refine step_val (v := .pointer (some ⟨wr.heap.size, 0, none⟩)) (w' := w') ?_ ⟨_, rfl, Ext.refl _ _, rfl⟩
                        simp [execOp, h10, Result.andThen, go_sem]
                      case f1 =>
                        intro g1 w' hx hd
                        refine op_run rfl ?_
                        have e69 : g1 69 = .pointer (some ⟨wr.heap.size, 0, none⟩) := hd ⟨0, .data⟩ (by simp) rfl
                        generalize hA : mkAct _ _ g1 = Ac
                        have h69 : Ac.tmps[69]?.getD undef = .pointer (some ⟨wr.heap.size, 0, none⟩) := by rw [← hA, mkAct_in2 _ _ _ _ rfl rfl]; exact e69
                        have cX := cD w' hx
                        refine step_val (v := .int .i64 D) (w' := w') ?_ ⟨_, rfl, Ext.refl _ _, rfl⟩
                        simp [execOp, h69, cX, Result.andThen, go_sem]
                      case f2 =>
                        intro g1 w' hx hd
                        refine op_run rfl ?_
                        generalize hA : mkAct _ _ g1 = Ac
                        have h5 : Ac.tmps[5]?.getD undef = .int .i64 now := by rw [← hA]; exact mkAct_out2 _ _ _ _ _ rfl rfl
                        refine step_val (v := .int .i64 now) (w' := w') ?_ ⟨_, rfl, Ext.refl _ _, rfl⟩
                        simp [execOp, h5, Result.andThen, go_sem]
                      case f3 =>
                        intro g1 w' hx hd
                        refine op_run rfl ?_
                        have e70 : g1 70 = .int .i64 D := hd ⟨1, .data⟩ (by simp) rfl
                        have e71 : g1 71 = .int .i64 now := hd ⟨2, .data⟩ (by simp) rfl
                        generalize hA : mkAct _ _ g1 = Ac
                        have h70 : Ac.tmps[70]?.getD undef = .int .i64 D := by rw [← hA, mkAct_in2 _ _ _ _ rfl rfl]; exact e70
                        have h71 : Ac.tmps[71]?.getD undef = .int .i64 now := by rw [← hA, mkAct_in2 _ _ _ _ rfl rfl]; exact e71
                        refine step_val (v := .bool true) (w' := w') ?_ ⟨_, rfl, Ext.refl _ _, rfl⟩
                        simp [execOp, h70, h71, Result.andThen, go_sem, hDn]
                      case f4 =>
                        intro g1 w' hx hd
                        refine op_run rfl ?_
                        have e72 : g1 72 = .bool true := hd ⟨3, .data⟩ (by simp) rfl
                        generalize hA : mkAct _ _ g1 = Ac
                        have h72 : Ac.tmps[72]?.getD undef = .bool true := by rw [← hA, mkAct_in2 _ _ _ _ rfl rfl]; exact e72
                        refine step_val (v := .bool true) (w' := w') ?_ ⟨_, rfl, Ext.refl _ _, rfl⟩
                        simp [execOp, h72, Result.andThen, go_sem]
                      case f5 =>
                        intro g1 w' hx hd
                        have eg : g1 73 = .bool true := hd ⟨4, .guard⟩ (by simp) rfl
                        refine op_yes rfl rfl rfl rfl eg ?_
                        generalize hA : mkAct _ _ g1 = Ac
                        have h8 : Ac.tmps[8]?.getD undef = .int .i64 (-1) := by rw [← hA]; exact mkAct_out2 _ _ _ _ _ rfl rfl
                        refine step_val (v := .int .i64 (-1)) (w' := w') ?_ ⟨_, rfl, Ext.refl _ _, rfl⟩
                        simp [execOp, h8, Result.andThen, go_sem]
                      case f6 =>
                        intro g1 w' hx hd
                        have eg : g1 73 = .bool true := hd ⟨4, .guard⟩ (by simp) rfl
                        refine op_yes rfl rfl rfl rfl eg ?_
                        have e74 : g1 74 = .int .i64 (-1) := hd ⟨5, .data⟩ (by simp) rfl
                        generalize hA : mkAct _ _ g1 = Ac
                        have h74 : Ac.tmps[74]?.getD undef = .int .i64 (-1) := by rw [← hA, mkAct_in2 _ _ _ _ rfl rfl]; exact e74
                        refine step_val (v := .bool true) (w' := w') ?_ ⟨_, rfl, Ext.refl _ _, rfl⟩
                        simp [execOp, h74, Result.andThen, go_sem]
                      case f7 =>
                        intro g1 w' hx hd
                        have eg : g1 73 = .bool true := hd ⟨4, .guard⟩ (by simp) rfl
                        refine op_yes rfl rfl rfl rfl eg ?_
                        have e75 : g1 75 = .bool true := hd ⟨6, .data⟩ (by simp) rfl
                        generalize hA : mkAct _ _ g1 = Ac
                        have h75 : Ac.tmps[75]?.getD undef = .bool true := by rw [← hA, mkAct_in2 _ _ _ _ rfl rfl]; exact e75
                        refine step_val (v := .bool true) (w' := w') ?_ ⟨_, rfl, Ext.refl _ _, rfl⟩
                        simp [execOp, h75, Result.andThen, go_sem]
                      case f8 =>
                        intro g1 w' hx hd
                        have eg : g1 76 = .bool true := hd ⟨7, .guard⟩ (by simp) rfl
                        exact op_no rfl rfl rfl rfl true eg (by decide) ⟨_, rfl, Ext.refl _ _, by first | rfl | trivial⟩
                      case f9 =>
                        intro g1 w' hx hd
                        have eg : g1 76 = .bool true := hd ⟨7, .guard⟩ (by simp) rfl
                        exact op_no rfl rfl rfl rfl true eg (by decide) ⟨_, rfl, Ext.refl _ _, by first | rfl | trivial⟩
                      case f10 =>
                        intro g1 w' hx hd
                        have eg : g1 76 = .bool true := hd ⟨7, .guard⟩ (by simp) rfl
                        exact op_no rfl rfl rfl rfl true eg (by decide) ⟨_, rfl, Ext.refl _ _, by first | rfl | trivial⟩
                      case f11 =>
                        intro g1 w' hx hd
                        have eg : g1 76 = .bool true := hd ⟨7, .guard⟩ (by simp) rfl
                        exact op_no rfl rfl rfl rfl true eg (by decide) ⟨_, rfl, Ext.refl _ _, by first | rfl | trivial⟩
                      case f12 =>
                        intro g1 w' hx hd
                        have eg : g1 76 = .bool true := hd ⟨7, .guard⟩ (by simp) rfl
                        exact op_no rfl rfl rfl rfl true eg (by decide) ⟨_, rfl, Ext.refl _ _, by first | rfl | trivial⟩
                      case f13 =>
                        intro g1 w' hx hd
                        have eg : g1 76 = .bool true := hd ⟨7, .guard⟩ (by simp) rfl
                        exact op_no rfl rfl rfl rfl true eg (by decide) ⟨_, rfl, Ext.refl _ _, by first | rfl | trivial⟩
                      case f14 =>
                        intro g1 w' hx hd
                        have eg : g1 76 = .bool true := hd ⟨7, .guard⟩ (by simp) rfl
                        exact op_no rfl rfl rfl rfl true eg (by decide) ⟨_, rfl, Ext.refl _ _, by first | rfl | trivial⟩
                      case f15 =>
                        intro g1 w' hx hd
                        have eg : g1 76 = .bool true := hd ⟨7, .guard⟩ (by simp) rfl
                        exact op_no rfl rfl rfl rfl true eg (by decide) ⟨_, rfl, Ext.refl _ _, by first | rfl | trivial⟩
                      case f16 =>
                        intro g1 w' hx hd
                        have eg : g1 73 = .bool true := hd ⟨4, .guard⟩ (by simp) rfl
                        refine op_yes rfl rfl rfl rfl eg ?_
                        have e76 : g1 76 = .bool true := hd ⟨7, .data⟩ (by simp) rfl
                        generalize hA : mkAct _ _ g1 = Ac
                        have h76 : Ac.tmps[76]?.getD undef = .bool true := by rw [← hA, mkAct_in2 _ _ _ _ rfl rfl]; exact e76
                        refine step_val (v := .bool true) (w' := w') ?_ ⟨_, rfl, Ext.refl _ _, rfl⟩
                        simp [execOp, h76, Result.andThen, go_sem]
                      case f17 =>
                        intro g1 w' hx hd
                        refine op_run rfl ?_
                        have e73 : g1 73 = .bool true := hd ⟨4, .data⟩ (by simp) rfl
                        have e85 : g1 85 = .bool true := hd ⟨16, .data⟩ (by simp) rfl
                        generalize hA : mkAct _ _ g1 = Ac
                        have h73 : Ac.tmps[73]?.getD undef = .bool true := by rw [← hA, mkAct_in2 _ _ _ _ rfl rfl]; exact e73
                        have h85 : Ac.tmps[85]?.getD undef = .bool true := by rw [← hA, mkAct_in2 _ _ _ _ rfl rfl]; exact e85
                        refine step_val (v := .bool true) (w' := w') ?_ ⟨_, rfl, Ext.refl _ _, rfl⟩
                        simp [execOp, h73, h85, Result.andThen, go_sem]
                    · intro g1 w5 hx5 hd
                      have e86 : g1 86 = .bool true := hd 17 (by decide)
                      unfold mkAct
                      simp only [List.zipIdx_cons, List.zipIdx_nil, List.map_cons, List.map_nil, Nat.zero_add, Nat.reduceAdd, List.contains_cons, List.contains_nil, Nat.reduceBEq, Bool.or_false, Bool.or_true, ↓reduceIte, Bool.false_eq_true]
                      rw [e86]
                      clear hd e86
                      have HX5 := Hid.of (HXW3.out.then0 hx5)
                      clear hx5 cD cj0 cj1
                      go_wp2
                      exact ⟨⟨j + 1, (j : Int), by congr 1, by omega, rfl, HB.out, HX5.out⟩, by simp [intOf]; omega⟩
                  · obtain ⟨q', off', he, hcp⟩ := HIT.out p (by omega)
                    simp only [Option.some.injEq, Addr.mk.injEq, and_true] at he
                    obtain ⟨rfl, rfl⟩ := he
                    have hpn : p < A.length := by omega
                    obtain ⟨E, hE⟩ : ∃ E, E = z.due := ⟨_, rfl⟩
                    have cE : ∀ w', Ext [] W3 w' → w'.cell? ⟨q, off + p * 2, none⟩ = some (.int .i64 E) := fun w' hx => by
                      have h1 := (hcp w' (HXW3.out.then0 hx)).1
                      rw [List.getElem?_eq_getElem hpn] at hz
                      rw [Option.some.inj hz, ← hE] at h1
                      exact h1
                    have HE := Hid.of hE
                    have HZ := Hid.of hz
                    clear hE hz hcp
                    by_cases hDE : D < E
                    · have HB := Hid.of (hβ.out.less HXJ.out HZ.out (by have := HD.out; have := HE.out; omega))
                      go_wp2_with fail
                      rw [← HW3.out]
                      refine wp_region_stepsg [69, 70, 71, 72, 73, 74, 75, 76, 77, 78, 79, 80, 81, 82, 83, 84, 85, 86] (na24lessΦ wr.heap.size q off A.length cv p D E now) (by kernel_rfl) (by kernel_rfl) (fun k y w1 w2 h hx => na24lessΦ_keep wr.heap.size q off A.length cv p D E now k y w1 w2 h hx) ?_ ?_
                      · refine ⟨?f0, ?f1, ?f2, ?f3, ?f4, ?f5, ?f6, ?f7, ?f8, ?f9, ?f10, ?f11, ?f12, ?f13, ?f14, ?f15, ?f16, ?f17, trivial⟩
                        case f0 =>
                          intro g1 w' hx hd
                          refine op_run rfl ?_
                          generalize hA : mkAct _ _ g1 = Ac
                          have h10 : Ac.tmps[10]?.getD undef = .pointer (some ⟨wr.heap.size, 0, none⟩) := by rw [← hA]; exact mkAct_out2 _ _ _ _ _ rfl rfl
                          refine step_val (v := .pointer (some ⟨wr.heap.size, 0, none⟩)) (w' := w') ?_ ⟨_, rfl, Ext.refl _ _, rfl⟩
                          simp [execOp, h10, Result.andThen, go_sem]
                        case f1 =>
                          intro g1 w' hx hd
                          refine op_run rfl ?_
                          have e69 : g1 69 = .pointer (some ⟨wr.heap.size, 0, none⟩) := hd ⟨0, .data⟩ (by simp) rfl
                          generalize hA : mkAct _ _ g1 = Ac
                          have h69 : Ac.tmps[69]?.getD undef = .pointer (some ⟨wr.heap.size, 0, none⟩) := by rw [← hA, mkAct_in2 _ _ _ _ rfl rfl]; exact e69
                          have cX := cD w' hx
                          refine step_val (v := .int .i64 D) (w' := w') ?_ ⟨_, rfl, Ext.refl _ _, rfl⟩
                          simp [execOp, h69, cX, Result.andThen, go_sem]
                        case f2 =>
                          intro g1 w' hx hd
                          refine op_run rfl ?_
                          generalize hA : mkAct _ _ g1 = Ac
                          have h5 : Ac.tmps[5]?.getD undef = .int .i64 now := by rw [← hA]; exact mkAct_out2 _ _ _ _ _ rfl rfl
                          refine step_val (v := .int .i64 now) (w' := w') ?_ ⟨_, rfl, Ext.refl _ _, rfl⟩
                          simp [execOp, h5, Result.andThen, go_sem]
                        case f3 =>
                          intro g1 w' hx hd
                          refine op_run rfl ?_
                          have e70 : g1 70 = .int .i64 D := hd ⟨1, .data⟩ (by simp) rfl
                          have e71 : g1 71 = .int .i64 now := hd ⟨2, .data⟩ (by simp) rfl
                          generalize hA : mkAct _ _ g1 = Ac
                          have h70 : Ac.tmps[70]?.getD undef = .int .i64 D := by rw [← hA, mkAct_in2 _ _ _ _ rfl rfl]; exact e70
                          have h71 : Ac.tmps[71]?.getD undef = .int .i64 now := by rw [← hA, mkAct_in2 _ _ _ _ rfl rfl]; exact e71
                          refine step_val (v := .bool true) (w' := w') ?_ ⟨_, rfl, Ext.refl _ _, rfl⟩
                          simp [execOp, h70, h71, Result.andThen, go_sem, hDn]
                        case f4 =>
                          intro g1 w' hx hd
                          refine op_run rfl ?_
                          have e72 : g1 72 = .bool true := hd ⟨3, .data⟩ (by simp) rfl
                          generalize hA : mkAct _ _ g1 = Ac
                          have h72 : Ac.tmps[72]?.getD undef = .bool true := by rw [← hA, mkAct_in2 _ _ _ _ rfl rfl]; exact e72
                          refine step_val (v := .bool true) (w' := w') ?_ ⟨_, rfl, Ext.refl _ _, rfl⟩
                          simp [execOp, h72, Result.andThen, go_sem]
                        case f5 =>
                          intro g1 w' hx hd
                          have eg : g1 73 = .bool true := hd ⟨4, .guard⟩ (by simp) rfl
                          refine op_yes rfl rfl rfl rfl eg ?_
                          generalize hA : mkAct _ _ g1 = Ac
                          have h8 : Ac.tmps[8]?.getD undef = .int .i64 (p : Int) := by rw [← hA]; exact mkAct_out2 _ _ _ _ _ rfl rfl
                          refine step_val (v := .int .i64 (p : Int)) (w' := w') ?_ ⟨_, rfl, Ext.refl _ _, rfl⟩
                          simp [execOp, h8, Result.andThen, go_sem]
                        case f6 =>
                          intro g1 w' hx hd
                          have eg : g1 73 = .bool true := hd ⟨4, .guard⟩ (by simp) rfl
                          refine op_yes rfl rfl rfl rfl eg ?_
                          have e74 : g1 74 = .int .i64 (p : Int) := hd ⟨5, .data⟩ (by simp) rfl
                          generalize hA : mkAct _ _ g1 = Ac
                          have h74 : Ac.tmps[74]?.getD undef = .int .i64 (p : Int) := by rw [← hA, mkAct_in2 _ _ _ _ rfl rfl]; exact e74
                          refine step_val (v := .bool false) (w' := w') ?_ ⟨_, rfl, Ext.refl _ _, rfl⟩
                          simp [execOp, h74, Result.andThen, go_sem]
                        case f7 =>
                          intro g1 w' hx hd
                          have eg : g1 73 = .bool true := hd ⟨4, .guard⟩ (by simp) rfl
                          refine op_yes rfl rfl rfl rfl eg ?_
                          have e75 : g1 75 = .bool false := hd ⟨6, .data⟩ (by simp) rfl
                          generalize hA : mkAct _ _ g1 = Ac
                          have h75 : Ac.tmps[75]?.getD undef = .bool false := by rw [← hA, mkAct_in2 _ _ _ _ rfl rfl]; exact e75
                          refine step_val (v := .bool false) (w' := w') ?_ ⟨_, rfl, Ext.refl _ _, rfl⟩
                          simp [execOp, h75, Result.andThen, go_sem]
                        case f8 =>
                          intro g1 w' hx hd
                          have eg : g1 76 = .bool false := hd ⟨7, .guard⟩ (by simp) rfl
                          refine op_yes rfl rfl rfl rfl eg ?_
                          generalize hA : mkAct _ _ g1 = Ac
                          have h10 : Ac.tmps[10]?.getD undef = .pointer (some ⟨wr.heap.size, 0, none⟩) := by rw [← hA]; exact mkAct_out2 _ _ _ _ _ rfl rfl
                          refine step_val (v := .pointer (some ⟨wr.heap.size, 0, none⟩)) (w' := w') ?_ ⟨_, rfl, Ext.refl _ _, rfl⟩
                          simp [execOp, h10, Result.andThen, go_sem]
                        case f9 =>
                          intro g1 w' hx hd
                          have eg : g1 76 = .bool false := hd ⟨7, .guard⟩ (by simp) rfl
                          refine op_yes rfl rfl rfl rfl eg ?_
                          have e77 : g1 77 = .pointer (some ⟨wr.heap.size, 0, none⟩) := hd ⟨8, .data⟩ (by simp) rfl
                          generalize hA : mkAct _ _ g1 = Ac
                          have h77 : Ac.tmps[77]?.getD undef = .pointer (some ⟨wr.heap.size, 0, none⟩) := by rw [← hA, mkAct_in2 _ _ _ _ rfl rfl]; exact e77
                          have cX := cD w' hx
                          refine step_val (v := .int .i64 D) (w' := w') ?_ ⟨_, rfl, Ext.refl _ _, rfl⟩
                          simp [execOp, h77, cX, Result.andThen, go_sem]
                        case f10 =>
                          intro g1 w' hx hd
                          have eg : g1 76 = .bool false := hd ⟨7, .guard⟩ (by simp) rfl
                          refine op_yes rfl rfl rfl rfl eg ?_
                          generalize hA : mkAct _ _ g1 = Ac
                          have h4 : Ac.tmps[4]?.getD undef = .slice (some ⟨q, off, none⟩) A.length cv := by rw [← hA]; exact mkAct_out2 _ _ _ _ _ rfl rfl
                          refine step_val (v := .slice (some ⟨q, off, none⟩) A.length cv) (w' := w') ?_ ⟨_, rfl, Ext.refl _ _, rfl⟩
                          simp [execOp, h4, Result.andThen, go_sem]
                        case f11 =>
                          intro g1 w' hx hd
                          have eg : g1 76 = .bool false := hd ⟨7, .guard⟩ (by simp) rfl
                          refine op_yes rfl rfl rfl rfl eg ?_
                          generalize hA : mkAct _ _ g1 = Ac
                          have h8 : Ac.tmps[8]?.getD undef = .int .i64 (p : Int) := by rw [← hA]; exact mkAct_out2 _ _ _ _ _ rfl rfl
                          refine step_val (v := .int .i64 (p : Int)) (w' := w') ?_ ⟨_, rfl, Ext.refl _ _, rfl⟩
                          simp [execOp, h8, Result.andThen, go_sem]
                        case f12 =>
                          intro g1 w' hx hd
                          have eg : g1 76 = .bool false := hd ⟨7, .guard⟩ (by simp) rfl
                          refine op_yes rfl rfl rfl rfl eg ?_
                          have e79 : g1 79 = .slice (some ⟨q, off, none⟩) A.length cv := hd ⟨10, .data⟩ (by simp) rfl
                          have e80 : g1 80 = .int .i64 (p : Int) := hd ⟨11, .data⟩ (by simp) rfl
                          generalize hA : mkAct _ _ g1 = Ac
                          have h79 : Ac.tmps[79]?.getD undef = .slice (some ⟨q, off, none⟩) A.length cv := by rw [← hA, mkAct_in2 _ _ _ _ rfl rfl]; exact e79
                          have h80 : Ac.tmps[80]?.getD undef = .int .i64 (p : Int) := by rw [← hA, mkAct_in2 _ _ _ _ rfl rfl]; exact e80
                          refine step_val (v := .pointer (some ⟨q, off + p * 2, none⟩)) (w' := w') ?_ ⟨_, rfl, Ext.refl _ _, rfl⟩
                          simp [execOp, h79, h80, Result.andThen, go_sem, hpn]
                        case f13 =>
                          intro g1 w' hx hd
                          have eg : g1 76 = .bool false := hd ⟨7, .guard⟩ (by simp) rfl
                          refine op_yes rfl rfl rfl rfl eg ?_
                          have e81 : g1 81 = .pointer (some ⟨q, off + p * 2, none⟩) := hd ⟨12, .data⟩ (by simp) rfl
                          generalize hA : mkAct _ _ g1 = Ac
                          have h81 : Ac.tmps[81]?.getD undef = .pointer (some ⟨q, off + p * 2, none⟩) := by rw [← hA, mkAct_in2 _ _ _ _ rfl rfl]; exact e81
                          refine step_val (v := .pointer (some ⟨q, off + p * 2, none⟩)) (w' := w') ?_ ⟨_, rfl, Ext.refl _ _, rfl⟩
                          simp [execOp, h81, Result.andThen, go_sem]
                        case f14 =>
                          intro g1 w' hx hd
                          have eg : g1 76 = .bool false := hd ⟨7, .guard⟩ (by simp) rfl
                          refine op_yes rfl rfl rfl rfl eg ?_
                          have e82 : g1 82 = .pointer (some ⟨q, off + p * 2, none⟩) := hd ⟨13, .data⟩ (by simp) rfl
                          generalize hA : mkAct _ _ g1 = Ac
                          have h82 : Ac.tmps[82]?.getD undef = .pointer (some ⟨q, off + p * 2, none⟩) := by rw [← hA, mkAct_in2 _ _ _ _ rfl rfl]; exact e82
                          have cX := cE w' hx
                          refine step_val (v := .int .i64 E) (w' := w') ?_ ⟨_, rfl, Ext.refl _ _, rfl⟩
                          simp [execOp, h82, cX, Result.andThen, go_sem]
                        case f15 =>
                          intro g1 w' hx hd
                          have eg : g1 76 = .bool false := hd ⟨7, .guard⟩ (by simp) rfl
                          refine op_yes rfl rfl rfl rfl eg ?_
                          have e78 : g1 78 = .int .i64 D := hd ⟨9, .data⟩ (by simp) rfl
                          have e83 : g1 83 = .int .i64 E := hd ⟨14, .data⟩ (by simp) rfl
                          generalize hA : mkAct _ _ g1 = Ac
                          have h78 : Ac.tmps[78]?.getD undef = .int .i64 D := by rw [← hA, mkAct_in2 _ _ _ _ rfl rfl]; exact e78
                          have h83 : Ac.tmps[83]?.getD undef = .int .i64 E := by rw [← hA, mkAct_in2 _ _ _ _ rfl rfl]; exact e83
                          refine step_val (v := .bool true) (w' := w') ?_ ⟨_, rfl, Ext.refl _ _, rfl⟩
                          simp [execOp, h78, h83, Result.andThen, go_sem, hDE]
                        case f16 =>
                          intro g1 w' hx hd
                          have eg : g1 73 = .bool true := hd ⟨4, .guard⟩ (by simp) rfl
                          refine op_yes rfl rfl rfl rfl eg ?_
                          have e76 : g1 76 = .bool false := hd ⟨7, .data⟩ (by simp) rfl
                          have e84 : g1 84 = .bool true := hd ⟨15, .data⟩ (by simp) rfl
                          generalize hA : mkAct _ _ g1 = Ac
                          have h76 : Ac.tmps[76]?.getD undef = .bool false := by rw [← hA, mkAct_in2 _ _ _ _ rfl rfl]; exact e76
                          have h84 : Ac.tmps[84]?.getD undef = .bool true := by rw [← hA, mkAct_in2 _ _ _ _ rfl rfl]; exact e84
                          refine step_val (v := .bool true) (w' := w') ?_ ⟨_, rfl, Ext.refl _ _, rfl⟩
                          simp [execOp, h76, h84, Result.andThen, go_sem]
                        case f17 =>
                          intro g1 w' hx hd
                          refine op_run rfl ?_
                          have e73 : g1 73 = .bool true := hd ⟨4, .data⟩ (by simp) rfl
                          have e85 : g1 85 = .bool true := hd ⟨16, .data⟩ (by simp) rfl
                          generalize hA : mkAct _ _ g1 = Ac
                          have h73 : Ac.tmps[73]?.getD undef = .bool true := by rw [← hA, mkAct_in2 _ _ _ _ rfl rfl]; exact e73
                          have h85 : Ac.tmps[85]?.getD undef = .bool true := by rw [← hA, mkAct_in2 _ _ _ _ rfl rfl]; exact e85
                          refine step_val (v := .bool true) (w' := w') ?_ ⟨_, rfl, Ext.refl _ _, rfl⟩
                          simp [execOp, h73, h85, Result.andThen, go_sem]
                      · intro g1 w5 hx5 hd
                        have e86 : g1 86 = .bool true := hd 17 (by decide)
                        unfold mkAct
                        simp only [List.zipIdx_cons, List.zipIdx_nil, List.map_cons, List.map_nil, Nat.zero_add, Nat.reduceAdd, List.contains_cons, List.contains_nil, Nat.reduceBEq, Bool.or_false, Bool.or_true, ↓reduceIte, Bool.false_eq_true]
                        rw [e86]
                        clear hd e86
                        have HX5 := Hid.of (HXW3.out.then0 hx5)
                        clear hx5 cD cj0 cj1 cE
                        go_wp2
                        exact ⟨⟨j + 1, (j : Int), by congr 1, by omega, rfl, HB.out, HX5.out⟩, by simp [intOf]; omega⟩
                    · have HB := Hid.of (hβ.out.not HXJ.out HZ.out (by have := HD.out; have := HE.out; omega))
                      go_wp2_with fail
                      rw [← HW3.out]
                      refine wp_region_stepsg [69, 70, 71, 72, 73, 74, 75, 76, 77, 78, 79, 80, 81, 82, 83, 84, 85, 86] (na24notΦ wr.heap.size q off A.length cv p D E now) (by kernel_rfl) (by kernel_rfl) (fun k y w1 w2 h hx => na24notΦ_keep wr.heap.size q off A.length cv p D E now k y w1 w2 h hx) ?_ ?_
                      · refine ⟨?f0, ?f1, ?f2, ?f3, ?f4, ?f5, ?f6, ?f7, ?f8, ?f9, ?f10, ?f11, ?f12, ?f13, ?f14, ?f15, ?f16, ?f17, trivial⟩
                        case f0 =>
                          intro g1 w' hx hd
                          refine op_run rfl ?_
                          generalize hA : mkAct _ _ g1 = Ac
                          have h10 : Ac.tmps[10]?.getD undef = .pointer (some ⟨wr.heap.size, 0, none⟩) := by rw [← hA]; exact mkAct_out2 _ _ _ _ _ rfl rfl
                          refine step_val (v := .pointer (some ⟨wr.heap.size, 0, none⟩)) (w' := w') ?_ ⟨_, rfl, Ext.refl _ _, rfl⟩
                          simp [execOp, h10, Result.andThen, go_sem]
                        case f1 =>
                          intro g1 w' hx hd
                          refine op_run rfl ?_
                          have e69 : g1 69 = .pointer (some ⟨wr.heap.size, 0, none⟩) := hd ⟨0, .data⟩ (by simp) rfl
                          generalize hA : mkAct _ _ g1 = Ac
                          have h69 : Ac.tmps[69]?.getD undef = .pointer (some ⟨wr.heap.size, 0, none⟩) := by rw [← hA, mkAct_in2 _ _ _ _ rfl rfl]; exact e69
                          have cX := cD w' hx
                          refine step_val (v := .int .i64 D) (w' := w') ?_ ⟨_, rfl, Ext.refl _ _, rfl⟩
                          simp [execOp, h69, cX, Result.andThen, go_sem]
                        case f2 =>
                          intro g1 w' hx hd
                          refine op_run rfl ?_
                          generalize hA : mkAct _ _ g1 = Ac
                          have h5 : Ac.tmps[5]?.getD undef = .int .i64 now := by rw [← hA]; exact mkAct_out2 _ _ _ _ _ rfl rfl
                          refine step_val (v := .int .i64 now) (w' := w') ?_ ⟨_, rfl, Ext.refl _ _, rfl⟩
                          simp [execOp, h5, Result.andThen, go_sem]
                        case f3 =>
                          intro g1 w' hx hd
                          refine op_run rfl ?_
                          have e70 : g1 70 = .int .i64 D := hd ⟨1, .data⟩ (by simp) rfl
                          have e71 : g1 71 = .int .i64 now := hd ⟨2, .data⟩ (by simp) rfl
                          generalize hA : mkAct _ _ g1 = Ac
                          have h70 : Ac.tmps[70]?.getD undef = .int .i64 D := by rw [← hA, mkAct_in2 _ _ _ _ rfl rfl]; exact e70
                          have h71 : Ac.tmps[71]?.getD undef = .int .i64 now := by rw [← hA, mkAct_in2 _ _ _ _ rfl rfl]; exact e71
                          refine step_val (v := .bool true) (w' := w') ?_ ⟨_, rfl, Ext.refl _ _, rfl⟩
                          simp [execOp, h70, h71, Result.andThen, go_sem, hDn]
                        case f4 =>
                          intro g1 w' hx hd
                          refine op_run rfl ?_
                          have e72 : g1 72 = .bool true := hd ⟨3, .data⟩ (by simp) rfl
                          generalize hA : mkAct _ _ g1 = Ac
                          have h72 : Ac.tmps[72]?.getD undef = .bool true := by rw [← hA, mkAct_in2 _ _ _ _ rfl rfl]; exact e72
                          refine step_val (v := .bool true) (w' := w') ?_ ⟨_, rfl, Ext.refl _ _, rfl⟩
                          simp [execOp, h72, Result.andThen, go_sem]
                        case f5 =>
                          intro g1 w' hx hd
                          have eg : g1 73 = .bool true := hd ⟨4, .guard⟩ (by simp) rfl
                          refine op_yes rfl rfl rfl rfl eg ?_
                          generalize hA : mkAct _ _ g1 = Ac
                          have h8 : Ac.tmps[8]?.getD undef = .int .i64 (p : Int) := by rw [← hA]; exact mkAct_out2 _ _ _ _ _ rfl rfl
                          refine step_val (v := .int .i64 (p : Int)) (w' := w') ?_ ⟨_, rfl, Ext.refl _ _, rfl⟩
                          simp [execOp, h8, Result.andThen, go_sem]
                        case f6 =>
                          intro g1 w' hx hd
                          have eg : g1 73 = .bool true := hd ⟨4, .guard⟩ (by simp) rfl
                          refine op_yes rfl rfl rfl rfl eg ?_
                          have e74 : g1 74 = .int .i64 (p : Int) := hd ⟨5, .data⟩ (by simp) rfl
                          generalize hA : mkAct _ _ g1 = Ac
                          have h74 : Ac.tmps[74]?.getD undef = .int .i64 (p : Int) := by rw [← hA, mkAct_in2 _ _ _ _ rfl rfl]; exact e74
                          refine step_val (v := .bool false) (w' := w') ?_ ⟨_, rfl, Ext.refl _ _, rfl⟩
                          simp [execOp, h74, Result.andThen, go_sem]
                        case f7 =>
                          intro g1 w' hx hd
                          have eg : g1 73 = .bool true := hd ⟨4, .guard⟩ (by simp) rfl
                          refine op_yes rfl rfl rfl rfl eg ?_
                          have e75 : g1 75 = .bool false := hd ⟨6, .data⟩ (by simp) rfl
                          generalize hA : mkAct _ _ g1 = Ac
                          have h75 : Ac.tmps[75]?.getD undef = .bool false := by rw [← hA, mkAct_in2 _ _ _ _ rfl rfl]; exact e75
                          refine step_val (v := .bool false) (w' := w') ?_ ⟨_, rfl, Ext.refl _ _, rfl⟩
                          simp [execOp, h75, Result.andThen, go_sem]
                        case f8 =>
                          intro g1 w' hx hd
                          have eg : g1 76 = .bool false := hd ⟨7, .guard⟩ (by simp) rfl
                          refine op_yes rfl rfl rfl rfl eg ?_
                          generalize hA : mkAct _ _ g1 = Ac
                          have h10 : Ac.tmps[10]?.getD undef = .pointer (some ⟨wr.heap.size, 0, none⟩) := by rw [← hA]; exact mkAct_out2 _ _ _ _ _ rfl rfl
                          refine step_val (v := .pointer (some ⟨wr.heap.size, 0, none⟩)) (w' := w') ?_ ⟨_, rfl, Ext.refl _ _, rfl⟩
                          simp [execOp, h10, Result.andThen, go_sem]
                        case f9 =>
                          intro g1 w' hx hd
                          have eg : g1 76 = .bool false := hd ⟨7, .guard⟩ (by simp) rfl
                          refine op_yes rfl rfl rfl rfl eg ?_
                          have e77 : g1 77 = .pointer (some ⟨wr.heap.size, 0, none⟩) := hd ⟨8, .data⟩ (by simp) rfl
                          generalize hA : mkAct _ _ g1 = Ac
                          have h77 : Ac.tmps[77]?.getD undef = .pointer (some ⟨wr.heap.size, 0, none⟩) := by rw [← hA, mkAct_in2 _ _ _ _ rfl rfl]; exact e77
                          have cX := cD w' hx
                          refine step_val (v := .int .i64 D) (w' := w') ?_ ⟨_, rfl, Ext.refl _ _, rfl⟩
                          simp [execOp, h77, cX, Result.andThen, go_sem]
                        case f10 =>
                          intro g1 w' hx hd
                          have eg : g1 76 = .bool false := hd ⟨7, .guard⟩ (by simp) rfl
                          refine op_yes rfl rfl rfl rfl eg ?_
                          generalize hA : mkAct _ _ g1 = Ac
                          have h4 : Ac.tmps[4]?.getD undef = .slice (some ⟨q, off, none⟩) A.length cv := by rw [← hA]; exact mkAct_out2 _ _ _ _ _ rfl rfl
                          refine step_val (v := .slice (some ⟨q, off, none⟩) A.length cv) (w' := w') ?_ ⟨_, rfl, Ext.refl _ _, rfl⟩
                          simp [execOp, h4, Result.andThen, go_sem]
                        case f11 =>
                          intro g1 w' hx hd
                          have eg : g1 76 = .bool false := hd ⟨7, .guard⟩ (by simp) rfl
                          refine op_yes rfl rfl rfl rfl eg ?_
                          generalize hA : mkAct _ _ g1 = Ac
                          have h8 : Ac.tmps[8]?.getD undef = .int .i64 (p : Int) := by rw [← hA]; exact mkAct_out2 _ _ _ _ _ rfl rfl
                          refine step_val (v := .int .i64 (p : Int)) (w' := w') ?_ ⟨_, rfl, Ext.refl _ _, rfl⟩
                          simp [execOp, h8, Result.andThen, go_sem]
                        case f12 =>
                          intro g1 w' hx hd
                          have eg : g1 76 = .bool false := hd ⟨7, .guard⟩ (by simp) rfl
                          refine op_yes rfl rfl rfl rfl eg ?_
                          have e79 : g1 79 = .slice (some ⟨q, off, none⟩) A.length cv := hd ⟨10, .data⟩ (by simp) rfl
                          have e80 : g1 80 = .int .i64 (p : Int) := hd ⟨11, .data⟩ (by simp) rfl
                          generalize hA : mkAct _ _ g1 = Ac
                          have h79 : Ac.tmps[79]?.getD undef = .slice (some ⟨q, off, none⟩) A.length cv := by rw [← hA, mkAct_in2 _ _ _ _ rfl rfl]; exact e79
                          have h80 : Ac.tmps[80]?.getD undef = .int .i64 (p : Int) := by rw [← hA, mkAct_in2 _ _ _ _ rfl rfl]; exact e80
                          refine step_val (v := .pointer (some ⟨q, off + p * 2, none⟩)) (w' := w') ?_ ⟨_, rfl, Ext.refl _ _, rfl⟩
                          simp [execOp, h79, h80, Result.andThen, go_sem, hpn]
                        case f13 =>
                          intro g1 w' hx hd
                          have eg : g1 76 = .bool false := hd ⟨7, .guard⟩ (by simp) rfl
                          refine op_yes rfl rfl rfl rfl eg ?_
                          have e81 : g1 81 = .pointer (some ⟨q, off + p * 2, none⟩) := hd ⟨12, .data⟩ (by simp) rfl
                          generalize hA : mkAct _ _ g1 = Ac
                          have h81 : Ac.tmps[81]?.getD undef = .pointer (some ⟨q, off + p * 2, none⟩) := by rw [← hA, mkAct_in2 _ _ _ _ rfl rfl]; exact e81
                          refine step_val (v := .pointer (some ⟨q, off + p * 2, none⟩)) (w' := w') ?_ ⟨_, rfl, Ext.refl _ _, rfl⟩
                          simp [execOp, h81, Result.andThen, go_sem]
                        case f14 =>
                          intro g1 w' hx hd
                          have eg : g1 76 = .bool false := hd ⟨7, .guard⟩ (by simp) rfl
                          refine op_yes rfl rfl rfl rfl eg ?_
                          have e82 : g1 82 = .pointer (some ⟨q, off + p * 2, none⟩) := hd ⟨13, .data⟩ (by simp) rfl
                          generalize hA : mkAct _ _ g1 = Ac
                          have h82 : Ac.tmps[82]?.getD undef = .pointer (some ⟨q, off + p * 2, none⟩) := by rw [← hA, mkAct_in2 _ _ _ _ rfl rfl]; exact e82
                          have cX := cE w' hx
                          refine step_val (v := .int .i64 E) (w' := w') ?_ ⟨_, rfl, Ext.refl _ _, rfl⟩
                          simp [execOp, h82, cX, Result.andThen, go_sem]
                        case f15 =>
                          intro g1 w' hx hd
                          have eg : g1 76 = .bool false := hd ⟨7, .guard⟩ (by simp) rfl
                          refine op_yes rfl rfl rfl rfl eg ?_
                          have e78 : g1 78 = .int .i64 D := hd ⟨9, .data⟩ (by simp) rfl
                          have e83 : g1 83 = .int .i64 E := hd ⟨14, .data⟩ (by simp) rfl
                          generalize hA : mkAct _ _ g1 = Ac
                          have h78 : Ac.tmps[78]?.getD undef = .int .i64 D := by rw [← hA, mkAct_in2 _ _ _ _ rfl rfl]; exact e78
                          have h83 : Ac.tmps[83]?.getD undef = .int .i64 E := by rw [← hA, mkAct_in2 _ _ _ _ rfl rfl]; exact e83
                          refine step_val (v := .bool false) (w' := w') ?_ ⟨_, rfl, Ext.refl _ _, rfl⟩
                          simp [execOp, h78, h83, Result.andThen, go_sem, hDE]
                        case f16 =>
                          intro g1 w' hx hd
                          have eg : g1 73 = .bool true := hd ⟨4, .guard⟩ (by simp) rfl
                          refine op_yes rfl rfl rfl rfl eg ?_
                          have e76 : g1 76 = .bool false := hd ⟨7, .data⟩ (by simp) rfl
                          have e84 : g1 84 = .bool false := hd ⟨15, .data⟩ (by simp) rfl
                          generalize hA : mkAct _ _ g1 = Ac
                          have h76 : Ac.tmps[76]?.getD undef = .bool false := by rw [← hA, mkAct_in2 _ _ _ _ rfl rfl]; exact e76
                          have h84 : Ac.tmps[84]?.getD undef = .bool false := by rw [← hA, mkAct_in2 _ _ _ _ rfl rfl]; exact e84
                          refine step_val (v := .bool false) (w' := w') ?_ ⟨_, rfl, Ext.refl _ _, rfl⟩
                          simp [execOp, h76, h84, Result.andThen, go_sem]
                        case f17 =>
                          intro g1 w' hx hd
                          refine op_run rfl ?_
                          have e73 : g1 73 = .bool true := hd ⟨4, .data⟩ (by simp) rfl
                          have e85 : g1 85 = .bool false := hd ⟨16, .data⟩ (by simp) rfl
                          generalize hA : mkAct _ _ g1 = Ac
                          have h73 : Ac.tmps[73]?.getD undef = .bool true := by rw [← hA, mkAct_in2 _ _ _ _ rfl rfl]; exact e73
                          have h85 : Ac.tmps[85]?.getD undef = .bool false := by rw [← hA, mkAct_in2 _ _ _ _ rfl rfl]; exact e85
                          refine step_val (v := .bool false) (w' := w') ?_ ⟨_, rfl, Ext.refl _ _, rfl⟩
                          simp [execOp, h73, h85, Result.andThen, go_sem]
                      · intro g1 w5 hx5 hd
                        have e86 : g1 86 = .bool false := hd 17 (by decide)
                        unfold mkAct
                        simp only [List.zipIdx_cons, List.zipIdx_nil, List.map_cons, List.map_nil, Nat.zero_add, Nat.reduceAdd, List.contains_cons, List.contains_nil, Nat.reduceBEq, Bool.or_false, Bool.or_true, ↓reduceIte, Bool.false_eq_true]
                        rw [e86]
                        clear hd e86
                        have HX5 := Hid.of (HXW3.out.then0 hx5)
                        clear hx5 cD cj0 cj1 cE
                        go_wp2
                        exact ⟨⟨j + 1, (p : Int), by congr 1, by omega, rfl, HB.out, HX5.out⟩, by simp [intOf]; omega⟩
                · have HB := Hid.of (hβ.out.late HXJ.out (by have := HD.out; omega))
                  go_wp2_with fail
                  rw [← HW3.out]
                  refine wp_region_stepsg [69, 70, 71, 72, 73, 74, 75, 76, 77, 78, 79, 80, 81, 82, 83, 84, 85, 86] (na24lateΦ wr.heap.size D now) (by kernel_rfl) (by kernel_rfl) (fun k y w1 w2 h hx => na24lateΦ_keep wr.heap.size D now k y w1 w2 h hx) ?_ ?_
                  · refine ⟨?f0, ?f1, ?f2, ?f3, ?f4, ?f5, ?f6, ?f7, ?f8, ?f9, ?f10, ?f11, ?f12, ?f13, ?f14, ?f15, ?f16, ?f17, trivial⟩
                    case f0 =>
                      intro g1 w' hx hd
                      refine op_run rfl ?_
                      generalize hA : mkAct _ _ g1 = Ac
                      have h10 : Ac.tmps[10]?.getD undef = .pointer (some ⟨wr.heap.size, 0, none⟩) := by rw [← hA]; exact mkAct_out2 _ _ _ _ _ rfl rfl
                      refine step_val (v := .pointer (some ⟨wr.heap.size, 0, none⟩)) (w' := w') ?_ ⟨_, rfl, Ext.refl _ _, rfl⟩
                      simp [execOp, h10, Result.andThen, go_sem]
                    case f1 =>
                      intro g1 w' hx hd
                      refine op_run rfl ?_
                      have e69 : g1 69 = .pointer (some ⟨wr.heap.size, 0, none⟩) := hd ⟨0, .data⟩ (by simp) rfl
                      generalize hA : mkAct _ _ g1 = Ac
                      have h69 : Ac.tmps[69]?.getD undef = .pointer (some ⟨wr.heap.size, 0, none⟩) := by rw [← hA, mkAct_in2 _ _ _ _ rfl rfl]; exact e69
                      have cX := cD w' hx
                      refine step_val (v := .int .i64 D) (w' := w') ?_ ⟨_, rfl, Ext.refl _ _, rfl⟩
                      simp [execOp, h69, cX, Result.andThen, go_sem]
                    case f2 =>
                      intro g1 w' hx hd
                      refine op_run rfl ?_
                      generalize hA : mkAct _ _ g1 = Ac
                      have h5 : Ac.tmps[5]?.getD undef = .int .i64 now := by rw [← hA]; exact mkAct_out2 _ _ _ _ _ rfl rfl
                      refine step_val (v := .int .i64 now) (w' := w') ?_ ⟨_, rfl, Ext.refl _ _, rfl⟩
                      simp [execOp, h5, Result.andThen, go_sem]
                    case f3 =>
                      intro g1 w' hx hd
                      refine op_run rfl ?_
                      have e70 : g1 70 = .int .i64 D := hd ⟨1, .data⟩ (by simp) rfl
                      have e71 : g1 71 = .int .i64 now := hd ⟨2, .data⟩ (by simp) rfl
                      generalize hA : mkAct _ _ g1 = Ac
                      have h70 : Ac.tmps[70]?.getD undef = .int .i64 D := by rw [← hA, mkAct_in2 _ _ _ _ rfl rfl]; exact e70
                      have h71 : Ac.tmps[71]?.getD undef = .int .i64 now := by rw [← hA, mkAct_in2 _ _ _ _ rfl rfl]; exact e71
                      refine step_val (v := .bool false) (w' := w') ?_ ⟨_, rfl, Ext.refl _ _, rfl⟩
                      simp [execOp, h70, h71, Result.andThen, go_sem, hDn]
                    case f4 =>
                      intro g1 w' hx hd
                      refine op_run rfl ?_
                      have e72 : g1 72 = .bool false := hd ⟨3, .data⟩ (by simp) rfl
                      generalize hA : mkAct _ _ g1 = Ac
                      have h72 : Ac.tmps[72]?.getD undef = .bool false := by rw [← hA, mkAct_in2 _ _ _ _ rfl rfl]; exact e72
                      refine step_val (v := .bool false) (w' := w') ?_ ⟨_, rfl, Ext.refl _ _, rfl⟩
                      simp [execOp, h72, Result.andThen, go_sem]
                    case f5 =>
                      intro g1 w' hx hd
                      have eg : g1 73 = .bool false := hd ⟨4, .guard⟩ (by simp) rfl
                      exact op_no rfl rfl rfl rfl false eg (by decide) ⟨_, rfl, Ext.refl _ _, by first | rfl | trivial⟩
                    case f6 =>
                      intro g1 w' hx hd
                      have eg : g1 73 = .bool false := hd ⟨4, .guard⟩ (by simp) rfl
                      exact op_no rfl rfl rfl rfl false eg (by decide) ⟨_, rfl, Ext.refl _ _, by first | rfl | trivial⟩
                    case f7 =>
                      intro g1 w' hx hd
                      have eg : g1 73 = .bool false := hd ⟨4, .guard⟩ (by simp) rfl
                      exact op_no rfl rfl rfl rfl false eg (by decide) ⟨_, rfl, Ext.refl _ _, by first | rfl | trivial⟩
                    case f8 =>
                      intro g1 w' hx hd
                      have eg : g1 76 = undef := hd ⟨7, .guard⟩ (by simp) rfl
                      exact op_undef rfl rfl rfl rfl eg ⟨_, rfl, Ext.refl _ _, by first | rfl | trivial⟩
                    case f9 =>
                      intro g1 w' hx hd
                      have eg : g1 76 = undef := hd ⟨7, .guard⟩ (by simp) rfl
                      exact op_undef rfl rfl rfl rfl eg ⟨_, rfl, Ext.refl _ _, by first | rfl | trivial⟩
                    case f10 =>
                      intro g1 w' hx hd
                      have eg : g1 76 = undef := hd ⟨7, .guard⟩ (by simp) rfl
                      exact op_undef rfl rfl rfl rfl eg ⟨_, rfl, Ext.refl _ _, by first | rfl | trivial⟩
                    case f11 =>
                      intro g1 w' hx hd
                      have eg : g1 76 = undef := hd ⟨7, .guard⟩ (by simp) rfl
                      exact op_undef rfl rfl rfl rfl eg ⟨_, rfl, Ext.refl _ _, by first | rfl | trivial⟩
                    case f12 =>
                      intro g1 w' hx hd
                      have eg : g1 76 = undef := hd ⟨7, .guard⟩ (by simp) rfl
                      exact op_undef rfl rfl rfl rfl eg ⟨_, rfl, Ext.refl _ _, by first | rfl | trivial⟩
                    case f13 =>
                      intro g1 w' hx hd
                      have eg : g1 76 = undef := hd ⟨7, .guard⟩ (by simp) rfl
                      exact op_undef rfl rfl rfl rfl eg ⟨_, rfl, Ext.refl _ _, by first | rfl | trivial⟩
                    case f14 =>
                      intro g1 w' hx hd
                      have eg : g1 76 = undef := hd ⟨7, .guard⟩ (by simp) rfl
                      exact op_undef rfl rfl rfl rfl eg ⟨_, rfl, Ext.refl _ _, by first | rfl | trivial⟩
                    case f15 =>
                      intro g1 w' hx hd
                      have eg : g1 76 = undef := hd ⟨7, .guard⟩ (by simp) rfl
                      exact op_undef rfl rfl rfl rfl eg ⟨_, rfl, Ext.refl _ _, by first | rfl | trivial⟩
                    case f16 =>
                      intro g1 w' hx hd
                      have eg : g1 73 = .bool false := hd ⟨4, .guard⟩ (by simp) rfl
                      exact op_no rfl rfl rfl rfl false eg (by decide) ⟨_, rfl, Ext.refl _ _, by first | rfl | trivial⟩
                    case f17 =>
                      intro g1 w' hx hd
                      refine op_run rfl ?_
                      have e73 : g1 73 = .bool false := hd ⟨4, .data⟩ (by simp) rfl
                      generalize hA : mkAct _ _ g1 = Ac
                      have h73 : Ac.tmps[73]?.getD undef = .bool false := by rw [← hA, mkAct_in2 _ _ _ _ rfl rfl]; exact e73
                      refine step_val (v := .bool false) (w' := w') ?_ ⟨_, rfl, Ext.refl _ _, rfl⟩
                      simp [execOp, h73, Result.andThen, go_sem]
                  · intro g1 w5 hx5 hd
                    have e86 : g1 86 = .bool false := hd 17 (by decide)
                    unfold mkAct
                    simp only [List.zipIdx_cons, List.zipIdx_nil, List.map_cons, List.map_nil, Nat.zero_add, Nat.reduceAdd, List.contains_cons, List.contains_nil, Nat.reduceBEq, Bool.or_false, Bool.or_true, ↓reduceIte, Bool.false_eq_true]
                    rw [e86]
                    clear hd e86
                    have HX5 := Hid.of (HXW3.out.then0 hx5)
                    clear hx5 cD cj0 cj1
                    go_wp2
                    exact ⟨⟨j + 1, β, by congr 1, by omega, rfl, HB.out, HX5.out⟩, by simp [intOf]; omega⟩
              · obtain rfl : j = A.length := by omega
                have hXr := HXW.out.ext0 hx3.out
                have hOr := HOW.out.keep hx3.out (by simp)
                rcases hβ.out.form with rfl | ⟨p, z, hpj, rfl, hz⟩
                · have cn := xnext_no hXr (by omega) hβ.out.none
                  clear hXr hOr
                  go_wp2_with (first
                    | (go_at_call 15; (with_reducible refine cn.mono ?_); rintro e w4 ⟨rfl, hx4⟩; have HX4 := Hid.of ((hx3.out.then0 hx4).alloc (.cells Ms.zero.cells.toArray 36)); clear hx4 cn)
                    | (refine wpList_new_row rfl rfl 36 _ _ _ rfl rfl rfl rfl _ al_msg Ms.zero.cells rfl (by kernel_rfl) (mcells_one _) rfl rfl ?_))
                  refine wp_region_stepsg [94, 95, 96, 97, 98, 99, 100, 101, 102, 103, 104, 105, 106, 107, 108, 109, 110] (na28noneΦ ()) (by kernel_rfl) (by kernel_rfl) (fun k y w1 w2 h hx => na28noneΦ_keep () k y w1 w2 h hx) ?_ ?_
                  · refine ⟨?f0, ?f1, ?f2, ?f3, ?f4, ?f5, ?f6, ?f7, ?f8, ?f9, ?f10, ?f11, ?f12, ?f13, ?f14, ?f15, ?f16, trivial⟩
                    case f0 =>
                      intro g1 w' hx hd
                      refine op_run rfl ?_
                      generalize hA : mkAct _ _ g1 = Ac
                      have h12 : Ac.tmps[12]?.getD undef = .bool false := by rw [← hA]; exact mkAct_out2 _ _ _ _ _ rfl rfl
                      refine step_val (v := .bool false) (w' := w') ?_ ⟨_, rfl, Ext.refl _ _, rfl⟩
                      simp [execOp, h12, Result.andThen, go_sem]
                    case f1 =>
                      intro g1 w' hx hd
                      refine op_run rfl ?_
                      generalize hA : mkAct _ _ g1 = Ac
                      have h8 : Ac.tmps[8]?.getD undef = .int .i64 (-1) := by rw [← hA]; exact mkAct_out2 _ _ _ _ _ rfl rfl
                      refine step_val (v := .int .i64 (-1)) (w' := w') ?_ ⟨_, rfl, Ext.refl _ _, rfl⟩
                      simp [execOp, h8, Result.andThen, go_sem]
                    case f2 =>
                      intro g1 w' hx hd
                      refine op_run rfl ?_
                      have e95 : g1 95 = .int .i64 (-1) := hd ⟨1, .data⟩ (by simp) rfl
                      generalize hA : mkAct _ _ g1 = Ac
                      have h95 : Ac.tmps[95]?.getD undef = .int .i64 (-1) := by rw [← hA, mkAct_in2 _ _ _ _ rfl rfl]; exact e95
                      refine step_val (v := .bool false) (w' := w') ?_ ⟨_, rfl, Ext.refl _ _, rfl⟩
                      simp [execOp, h95, Result.andThen, go_sem]
                    case f3 =>
                      intro g1 w' hx hd
                      refine op_run rfl ?_
                      have e94 : g1 94 = .bool false := hd ⟨0, .data⟩ (by simp) rfl
                      have e96 : g1 96 = .bool false := hd ⟨2, .data⟩ (by simp) rfl
                      generalize hA : mkAct _ _ g1 = Ac
                      have h94 : Ac.tmps[94]?.getD undef = .bool false := by rw [← hA, mkAct_in2 _ _ _ _ rfl rfl]; exact e94
                      have h96 : Ac.tmps[96]?.getD undef = .bool false := by rw [← hA, mkAct_in2 _ _ _ _ rfl rfl]; exact e96
                      refine step_val (v := .bool false) (w' := w') ?_ ⟨_, rfl, Ext.refl _ _, rfl⟩
                      simp [execOp, h94, h96, Result.andThen, go_sem]
                    case f4 =>
                      intro g1 w' hx hd
                      refine op_run rfl ?_
                      have e97 : g1 97 = .bool false := hd ⟨3, .data⟩ (by simp) rfl
                      generalize hA : mkAct _ _ g1 = Ac
                      have h97 : Ac.tmps[97]?.getD undef = .bool false := by rw [← hA, mkAct_in2 _ _ _ _ rfl rfl]; exact e97
                      refine step_val (v := .bool false) (w' := w') ?_ ⟨_, rfl, Ext.refl _ _, rfl⟩
                      simp [execOp, h97, Result.andThen, go_sem]
                    case f5 =>
                      intro g1 w' hx hd
                      have eg : g1 98 = .bool false := hd ⟨4, .guard⟩ (by simp) rfl
                      refine op_yes rfl rfl rfl rfl eg ?_
                      generalize hA : mkAct _ _ g1 = Ac
                      have h12 : Ac.tmps[12]?.getD undef = .bool false := by rw [← hA]; exact mkAct_out2 _ _ _ _ _ rfl rfl
                      refine step_val (v := .bool false) (w' := w') ?_ ⟨_, rfl, Ext.refl _ _, rfl⟩
                      simp [execOp, h12, Result.andThen, go_sem]
                    case f6 =>
                      intro g1 w' hx hd
                      have eg : g1 98 = .bool false := hd ⟨4, .guard⟩ (by simp) rfl
                      refine op_yes rfl rfl rfl rfl eg ?_
                      have e99 : g1 99 = .bool false := hd ⟨5, .data⟩ (by simp) rfl
                      generalize hA : mkAct _ _ g1 = Ac
                      have h99 : Ac.tmps[99]?.getD undef = .bool false := by rw [← hA, mkAct_in2 _ _ _ _ rfl rfl]; exact e99
                      refine step_val (v := .bool false) (w' := w') ?_ ⟨_, rfl, Ext.refl _ _, rfl⟩
                      simp [execOp, h99, Result.andThen, go_sem]
                    case f7 =>
                      intro g1 w' hx hd
                      have eg : g1 100 = .bool false := hd ⟨6, .guard⟩ (by simp) rfl
                      exact op_no rfl rfl rfl rfl false eg (by decide) ⟨_, rfl, Ext.refl _ _, by first | rfl | trivial⟩
                    case f8 =>
                      intro g1 w' hx hd
                      have eg : g1 100 = .bool false := hd ⟨6, .guard⟩ (by simp) rfl
                      exact op_no rfl rfl rfl rfl false eg (by decide) ⟨_, rfl, Ext.refl _ _, by first | rfl | trivial⟩
                    case f9 =>
                      intro g1 w' hx hd
                      have eg : g1 100 = .bool false := hd ⟨6, .guard⟩ (by simp) rfl
                      exact op_no rfl rfl rfl rfl false eg (by decide) ⟨_, rfl, Ext.refl _ _, by first | rfl | trivial⟩
                    case f10 =>
                      intro g1 w' hx hd
                      have eg : g1 100 = .bool false := hd ⟨6, .guard⟩ (by simp) rfl
                      exact op_no rfl rfl rfl rfl false eg (by decide) ⟨_, rfl, Ext.refl _ _, by first | rfl | trivial⟩
                    case f11 =>
                      intro g1 w' hx hd
                      have eg : g1 100 = .bool false := hd ⟨6, .guard⟩ (by simp) rfl
                      exact op_no rfl rfl rfl rfl false eg (by decide) ⟨_, rfl, Ext.refl _ _, by first | rfl | trivial⟩
                    case f12 =>
                      intro g1 w' hx hd
                      have eg : g1 100 = .bool false := hd ⟨6, .guard⟩ (by simp) rfl
                      exact op_no rfl rfl rfl rfl false eg (by decide) ⟨_, rfl, Ext.refl _ _, by first | rfl | trivial⟩
                    case f13 =>
                      intro g1 w' hx hd
                      have eg : g1 100 = .bool false := hd ⟨6, .guard⟩ (by simp) rfl
                      exact op_no rfl rfl rfl rfl false eg (by decide) ⟨_, rfl, Ext.refl _ _, by first | rfl | trivial⟩
                    case f14 =>
                      intro g1 w' hx hd
                      have eg : g1 100 = .bool false := hd ⟨6, .guard⟩ (by simp) rfl
                      exact op_no rfl rfl rfl rfl false eg (by decide) ⟨_, rfl, Ext.refl _ _, by first | rfl | trivial⟩
                    case f15 =>
                      intro g1 w' hx hd
                      have eg : g1 98 = .bool false := hd ⟨4, .guard⟩ (by simp) rfl
                      refine op_yes rfl rfl rfl rfl eg ?_
                      have e100 : g1 100 = .bool false := hd ⟨6, .data⟩ (by simp) rfl
                      generalize hA : mkAct _ _ g1 = Ac
                      have h100 : Ac.tmps[100]?.getD undef = .bool false := by rw [← hA, mkAct_in2 _ _ _ _ rfl rfl]; exact e100
                      refine step_val (v := .bool false) (w' := w') ?_ ⟨_, rfl, Ext.refl _ _, rfl⟩
                      simp [execOp, h100, Result.andThen, go_sem]
                    case f16 =>
                      intro g1 w' hx hd
                      refine op_run rfl ?_
                      have e98 : g1 98 = .bool false := hd ⟨4, .data⟩ (by simp) rfl
                      have e109 : g1 109 = .bool false := hd ⟨15, .data⟩ (by simp) rfl
                      generalize hA : mkAct _ _ g1 = Ac
                      have h98 : Ac.tmps[98]?.getD undef = .bool false := by rw [← hA, mkAct_in2 _ _ _ _ rfl rfl]; exact e98
                      have h109 : Ac.tmps[109]?.getD undef = .bool false := by rw [← hA, mkAct_in2 _ _ _ _ rfl rfl]; exact e109
                      refine step_val (v := .bool false) (w' := w') ?_ ⟨_, rfl, Ext.refl _ _, rfl⟩
                      simp [execOp, h98, h109, Result.andThen, go_sem]
                  · intro g1 w5 hx5 hd
                    have e110 : g1 110 = .bool false := hd 16 (by decide)
                    unfold mkAct
                    simp only [List.zipIdx_cons, List.zipIdx_nil, List.map_cons, List.map_nil, Nat.zero_add, Nat.reduceAdd, List.contains_cons, List.contains_nil, Nat.reduceBEq, Bool.or_false, Bool.or_true, ↓reduceIte, Bool.false_eq_true]
                    rw [e110]
                    clear hd e110
                    have h6 := HXW.out.ext0 (HX4.out.then0 hx5)
                    have HX6 := Hid.of (h6.mono (O' := vblocks (.slice av A.length cv)) (fun q hq => by simp [hq]))
                    have HO6 := Hid.of (HOW.out.keep (HX4.out.then0 hx5) (by simp))
                    clear hx5 h6
                    go_wp2_with fail
                    have cl := xlen HX6.out
                    have cw := xnow HX6.out
                    go_wp2_with (first
                      | (go_at_call 14; (with_reducible refine cl.mono ?_); rintro e w8 ⟨rfl, rfl⟩)
                      | (go_at_call 18; (with_reducible refine cw.mono ?_); rintro e w9 ⟨rfl, rfl⟩))
                    exact ⟨⟨k + 1, now, s, A, by congr 1, by omega, rfl, ⟨by omega, by omega, by omega, by omega, by omega⟩, HO6.out, HX6.out, hV.out, hS.out⟩, by simp [intOf]; omega⟩
                · have hpn : p < A.length := hpj
                  obtain ⟨y, hy1, hyA, hyd⟩ := hβ.out.due
                  have cn := xnext_yes hXr (by omega) y hyA hyd
                  clear hXr
                  have HOR := Hid.of hOr
                  have HZ := Hid.of hz
                  clear hOr hz hy1 hyA hyd
                  obtain ⟨I, hI⟩ : ∃ I, I = z.m.index := ⟨_, rfl⟩
                  have HI := Hid.of hI
                  clear hI
                  go_wp2_with (first
                    | (go_at_call 15; (with_reducible refine cn.mono ?_); rintro e w4 ⟨x, A5, hp, hm, hd, rfl, h5, f5⟩; obtain ⟨hxz, hp5⟩ := hβ.out.next hS.out HZ.out hp hm; have HP5 := Hid.of (h5.perm hp5); have HXZ := Hid.of hxz; have HF5 := Hid.of f5; clear h5 f5 hp hm hd hp5 hxz cn)
                    | (refine wpList_new_row rfl rfl 36 _ _ _ rfl rfl rfl rfl _ al_msg x.m.cells rfl (by kernel_rfl) (mcells_one _) rfl rfl ?_))
                  have cM : ∀ w', Ext [] (w4.alloc (.cells x.m.cells.toArray 36)) w' → w'.cell? ⟨w4.heap.size, 4, none⟩ = some (.int .i64 I) := fun w' hx => by
                    have := ((Blk.new w4 36 x.m.cells.toArray).keep hx (by simp)).c 4
                    rw [HI.out, ← HXZ.out]
                    exact this
                  have HO4 := Hid.of (show Own w4 _ _ _ _ _ from by obtain ⟨F, hxF, hF⟩ := HF5.out; exact HOR.out.keep hxF (fun q hq => hF q (by simp [hq])))
                  obtain ⟨q, off, rfl, hcp⟩ := item_at HO4.out p hpn
                  have cI : ∀ w', Ext [] (w4.alloc (.cells x.m.cells.toArray 36)) w' → w'.cell? ⟨q, off + p * 2 + 1, none⟩ = some (.int .i64 I) := fun w' hx => by
                    have h1 := (hcp w' (((Ext.refl [] w4).alloc _).then0 hx)).2
                    have hz := HZ.out
                    rw [List.getElem?_eq_getElem hpn] at hz
                    rw [Option.some.inj hz, ← HI.out] at h1
                    exact h1
                  clear hcp
                  refine wp_region_stepsg [94, 95, 96, 97, 98, 99, 100, 101, 102, 103, 104, 105, 106, 107, 108, 109, 110] (na28someΦ w4.heap.size q off A.length cv p I) (by kernel_rfl) (by kernel_rfl) (fun k y w1 w2 h hx => na28someΦ_keep w4.heap.size q off A.length cv p I k y w1 w2 h hx) ?_ ?_
                  · refine ⟨?f0, ?f1, ?f2, ?f3, ?f4, ?f5, ?f6, ?f7, ?f8, ?f9, ?f10, ?f11, ?f12, ?f13, ?f14, ?f15, ?f16, trivial⟩
                    case f0 =>
                      intro g1 w' hx hd
                      refine op_run rfl ?_
                      generalize hA : mkAct _ _ g1 = Ac
                      have h12 : Ac.tmps[12]?.getD undef = .bool true := by rw [← hA]; exact mkAct_out2 _ _ _ _ _ rfl rfl
                      refine step_val (v := .bool true) (w' := w') ?_ ⟨_, rfl, Ext.refl _ _, rfl⟩
                      simp [execOp, h12, Result.andThen, go_sem]
                    case f1 =>
                      intro g1 w' hx hd
                      refine op_run rfl ?_
                      generalize hA : mkAct _ _ g1 = Ac
                      have h8 : Ac.tmps[8]?.getD undef = .int .i64 (p : Int) := by rw [← hA]; exact mkAct_out2 _ _ _ _ _ rfl rfl
                      refine step_val (v := .int .i64 (p : Int)) (w' := w') ?_ ⟨_, rfl, Ext.refl _ _, rfl⟩
                      simp [execOp, h8, Result.andThen, go_sem]
                    case f2 =>
                      intro g1 w' hx hd
                      refine op_run rfl ?_
                      have e95 : g1 95 = .int .i64 (p : Int) := hd ⟨1, .data⟩ (by simp) rfl
                      generalize hA : mkAct _ _ g1 = Ac
                      have h95 : Ac.tmps[95]?.getD undef = .int .i64 (p : Int) := by rw [← hA, mkAct_in2 _ _ _ _ rfl rfl]; exact e95
                      refine step_val (v := .bool true) (w' := w') ?_ ⟨_, rfl, Ext.refl _ _, rfl⟩
                      simp [execOp, h95, Result.andThen, go_sem]
                    case f3 =>
                      intro g1 w' hx hd
                      refine op_run rfl ?_
                      have e94 : g1 94 = .bool true := hd ⟨0, .data⟩ (by simp) rfl
                      have e96 : g1 96 = .bool true := hd ⟨2, .data⟩ (by simp) rfl
                      generalize hA : mkAct _ _ g1 = Ac
                      have h94 : Ac.tmps[94]?.getD undef = .bool true := by rw [← hA, mkAct_in2 _ _ _ _ rfl rfl]; exact e94
                      have h96 : Ac.tmps[96]?.getD undef = .bool true := by rw [← hA, mkAct_in2 _ _ _ _ rfl rfl]; exact e96
                      refine step_val (v := .bool false) (w' := w') ?_ ⟨_, rfl, Ext.refl _ _, rfl⟩
                      simp [execOp, h94, h96, Result.andThen, go_sem]
                    case f4 =>
                      intro g1 w' hx hd
                      refine op_run rfl ?_
                      have e97 : g1 97 = .bool false := hd ⟨3, .data⟩ (by simp) rfl
                      generalize hA : mkAct _ _ g1 = Ac
                      have h97 : Ac.tmps[97]?.getD undef = .bool false := by rw [← hA, mkAct_in2 _ _ _ _ rfl rfl]; exact e97
                      refine step_val (v := .bool false) (w' := w') ?_ ⟨_, rfl, Ext.refl _ _, rfl⟩
                      simp [execOp, h97, Result.andThen, go_sem]
                    case f5 =>
                      intro g1 w' hx hd
                      have eg : g1 98 = .bool false := hd ⟨4, .guard⟩ (by simp) rfl
                      refine op_yes rfl rfl rfl rfl eg ?_
                      generalize hA : mkAct _ _ g1 = Ac
                      have h12 : Ac.tmps[12]?.getD undef = .bool true := by rw [← hA]; exact mkAct_out2 _ _ _ _ _ rfl rfl
                      refine step_val (v := .bool true) (w' := w') ?_ ⟨_, rfl, Ext.refl _ _, rfl⟩
                      simp [execOp, h12, Result.andThen, go_sem]
                    case f6 =>
                      intro g1 w' hx hd
                      have eg : g1 98 = .bool false := hd ⟨4, .guard⟩ (by simp) rfl
                      refine op_yes rfl rfl rfl rfl eg ?_
                      have e99 : g1 99 = .bool true := hd ⟨5, .data⟩ (by simp) rfl
                      generalize hA : mkAct _ _ g1 = Ac
                      have h99 : Ac.tmps[99]?.getD undef = .bool true := by rw [← hA, mkAct_in2 _ _ _ _ rfl rfl]; exact e99
                      refine step_val (v := .bool true) (w' := w') ?_ ⟨_, rfl, Ext.refl _ _, rfl⟩
                      simp [execOp, h99, Result.andThen, go_sem]
                    case f7 =>
                      intro g1 w' hx hd
                      have eg : g1 100 = .bool true := hd ⟨6, .guard⟩ (by simp) rfl
                      refine op_yes rfl rfl rfl rfl eg ?_
                      generalize hA : mkAct _ _ g1 = Ac
                      have h11 : Ac.tmps[11]?.getD undef = .pointer (some ⟨w4.heap.size, 0, none⟩) := by rw [← hA]; exact mkAct_out2 _ _ _ _ _ rfl rfl
                      refine step_val (v := .pointer (some ⟨w4.heap.size, 4, none⟩)) (w' := w') ?_ ⟨_, rfl, Ext.refl _ _, rfl⟩
                      simp [execOp, h11, Result.andThen, go_sem]
                    case f8 =>
                      intro g1 w' hx hd
                      have eg : g1 100 = .bool true := hd ⟨6, .guard⟩ (by simp) rfl
                      refine op_yes rfl rfl rfl rfl eg ?_
                      have e101 : g1 101 = .pointer (some ⟨w4.heap.size, 4, none⟩) := hd ⟨7, .data⟩ (by simp) rfl
                      generalize hA : mkAct _ _ g1 = Ac
                      have h101 : Ac.tmps[101]?.getD undef = .pointer (some ⟨w4.heap.size, 4, none⟩) := by rw [← hA, mkAct_in2 _ _ _ _ rfl rfl]; exact e101
                      have cX := cM w' hx
                      refine step_val (v := .int .i64 I) (w' := w') ?_ ⟨_, rfl, Ext.refl _ _, rfl⟩
                      simp [execOp, h101, cX, Result.andThen, go_sem]
                    case f9 =>
                      intro g1 w' hx hd
                      have eg : g1 100 = .bool true := hd ⟨6, .guard⟩ (by simp) rfl
                      refine op_yes rfl rfl rfl rfl eg ?_
                      generalize hA : mkAct _ _ g1 = Ac
                      have h4 : Ac.tmps[4]?.getD undef = .slice (some ⟨q, off, none⟩) A.length cv := by rw [← hA]; exact mkAct_out2 _ _ _ _ _ rfl rfl
                      refine step_val (v := .slice (some ⟨q, off, none⟩) A.length cv) (w' := w') ?_ ⟨_, rfl, Ext.refl _ _, rfl⟩
                      simp [execOp, h4, Result.andThen, go_sem]
                    case f10 =>
                      intro g1 w' hx hd
                      have eg : g1 100 = .bool true := hd ⟨6, .guard⟩ (by simp) rfl
                      refine op_yes rfl rfl rfl rfl eg ?_
                      generalize hA : mkAct _ _ g1 = Ac
                      have h8 : Ac.tmps[8]?.getD undef = .int .i64 (p : Int) := by rw [← hA]; exact mkAct_out2 _ _ _ _ _ rfl rfl
                      refine step_val (v := .int .i64 (p : Int)) (w' := w') ?_ ⟨_, rfl, Ext.refl _ _, rfl⟩
                      simp [execOp, h8, Result.andThen, go_sem]
                    case f11 =>
                      intro g1 w' hx hd
                      have eg : g1 100 = .bool true := hd ⟨6, .guard⟩ (by simp) rfl
                      refine op_yes rfl rfl rfl rfl eg ?_
                      have e103 : g1 103 = .slice (some ⟨q, off, none⟩) A.length cv := hd ⟨9, .data⟩ (by simp) rfl
                      have e104 : g1 104 = .int .i64 (p : Int) := hd ⟨10, .data⟩ (by simp) rfl
                      generalize hA : mkAct _ _ g1 = Ac
                      have h103 : Ac.tmps[103]?.getD undef = .slice (some ⟨q, off, none⟩) A.length cv := by rw [← hA, mkAct_in2 _ _ _ _ rfl rfl]; exact e103
                      have h104 : Ac.tmps[104]?.getD undef = .int .i64 (p : Int) := by rw [← hA, mkAct_in2 _ _ _ _ rfl rfl]; exact e104
                      refine step_val (v := .pointer (some ⟨q, off + p * 2, none⟩)) (w' := w') ?_ ⟨_, rfl, Ext.refl _ _, rfl⟩
                      simp [execOp, h103, h104, Result.andThen, go_sem, hpn]
                    case f12 =>
                      intro g1 w' hx hd
                      have eg : g1 100 = .bool true := hd ⟨6, .guard⟩ (by simp) rfl
                      refine op_yes rfl rfl rfl rfl eg ?_
                      have e105 : g1 105 = .pointer (some ⟨q, off + p * 2, none⟩) := hd ⟨11, .data⟩ (by simp) rfl
                      generalize hA : mkAct _ _ g1 = Ac
                      have h105 : Ac.tmps[105]?.getD undef = .pointer (some ⟨q, off + p * 2, none⟩) := by rw [← hA, mkAct_in2 _ _ _ _ rfl rfl]; exact e105
                      refine step_val (v := .pointer (some ⟨q, off + p * 2 + 1, none⟩)) (w' := w') ?_ ⟨_, rfl, Ext.refl _ _, rfl⟩
                      simp [execOp, h105, Result.andThen, go_sem]
                    case f13 =>
                      intro g1 w' hx hd
                      have eg : g1 100 = .bool true := hd ⟨6, .guard⟩ (by simp) rfl
                      refine op_yes rfl rfl rfl rfl eg ?_
                      have e106 : g1 106 = .pointer (some ⟨q, off + p * 2 + 1, none⟩) := hd ⟨12, .data⟩ (by simp) rfl
                      generalize hA : mkAct _ _ g1 = Ac
                      have h106 : Ac.tmps[106]?.getD undef = .pointer (some ⟨q, off + p * 2 + 1, none⟩) := by rw [← hA, mkAct_in2 _ _ _ _ rfl rfl]; exact e106
                      have cX := cI w' hx
                      refine step_val (v := .int .i64 I) (w' := w') ?_ ⟨_, rfl, Ext.refl _ _, rfl⟩
                      simp [execOp, h106, cX, Result.andThen, go_sem]
                    case f14 =>
                      intro g1 w' hx hd
                      have eg : g1 100 = .bool true := hd ⟨6, .guard⟩ (by simp) rfl
                      refine op_yes rfl rfl rfl rfl eg ?_
                      have e102 : g1 102 = .int .i64 I := hd ⟨8, .data⟩ (by simp) rfl
                      have e107 : g1 107 = .int .i64 I := hd ⟨13, .data⟩ (by simp) rfl
                      generalize hA : mkAct _ _ g1 = Ac
                      have h102 : Ac.tmps[102]?.getD undef = .int .i64 I := by rw [← hA, mkAct_in2 _ _ _ _ rfl rfl]; exact e102
                      have h107 : Ac.tmps[107]?.getD undef = .int .i64 I := by rw [← hA, mkAct_in2 _ _ _ _ rfl rfl]; exact e107
                      refine step_val (v := .bool false) (w' := w') ?_ ⟨_, rfl, Ext.refl _ _, rfl⟩
                      simp [execOp, h102, h107, Result.andThen, go_sem]
                    case f15 =>
                      intro g1 w' hx hd
                      have eg : g1 98 = .bool false := hd ⟨4, .guard⟩ (by simp) rfl
                      refine op_yes rfl rfl rfl rfl eg ?_
                      have e100 : g1 100 = .bool true := hd ⟨6, .data⟩ (by simp) rfl
                      have e108 : g1 108 = .bool false := hd ⟨14, .data⟩ (by simp) rfl
                      generalize hA : mkAct _ _ g1 = Ac
                      have h100 : Ac.tmps[100]?.getD undef = .bool true := by rw [← hA, mkAct_in2 _ _ _ _ rfl rfl]; exact e100
                      have h108 : Ac.tmps[108]?.getD undef = .bool false := by rw [← hA, mkAct_in2 _ _ _ _ rfl rfl]; exact e108
                      refine step_val (v := .bool false) (w' := w') ?_ ⟨_, rfl, Ext.refl _ _, rfl⟩
                      simp [execOp, h100, h108, Result.andThen, go_sem]
                    case f16 =>
                      intro g1 w' hx hd
                      refine op_run rfl ?_
                      have e98 : g1 98 = .bool false := hd ⟨4, .data⟩ (by simp) rfl
                      have e109 : g1 109 = .bool false := hd ⟨15, .data⟩ (by simp) rfl
                      generalize hA : mkAct _ _ g1 = Ac
                      have h98 : Ac.tmps[98]?.getD undef = .bool false := by rw [← hA, mkAct_in2 _ _ _ _ rfl rfl]; exact e98
                      have h109 : Ac.tmps[109]?.getD undef = .bool false := by rw [← hA, mkAct_in2 _ _ _ _ rfl rfl]; exact e109
                      refine step_val (v := .bool false) (w' := w') ?_ ⟨_, rfl, Ext.refl _ _, rfl⟩
                      simp [execOp, h98, h109, Result.andThen, go_sem]
                  · intro g1 w5 hx5 hd
                    have e110 : g1 110 = .bool false := hd 16 (by decide)
                    unfold mkAct
                    simp only [List.zipIdx_cons, List.zipIdx_nil, List.map_cons, List.map_nil, Nat.zero_add, Nat.reduceAdd, List.contains_cons, List.contains_nil, Nat.reduceBEq, Bool.or_false, Bool.or_true, ↓reduceIte, Bool.false_eq_true]
                    rw [e110]
                    clear hd e110
                    have hx45 := ((Ext.refl [] w4).alloc (.cells x.m.cells.toArray 36)).then0 hx5
                    have HX5 := Hid.of ((HP5.out.ext0 hx45).mono (O' := vblocks (.slice (some ⟨q, off, none⟩) A.length cv)) (fun q hq => by simp [hq]))
                    have hO5 := HO4.out.keep hx45 (by simp)
                    have hq5 : q < w5.heap.size := hO5.lt q (by simp [vblocks])
                    have hxd : Ext [] w5 (w5.drew.alloc (.cells #[] 51)) := ((Ext.refl [] w5).drew).alloc _
                    have hO31 := Own.lit w5.drew #[] 51 2 0 rfl (by unfold maxLen; omega)
                    have hR1 := ((hO5.take p (by omega)).rd).keep hxd (by simp)
                    have hR2 := (hO5.rd.dropn (p + 1) (by omega)).keep hxd (by simp)
                    have hone : ∀ u ∈ itms A, u.oneCell' = true := by
                      intro u hu
                      obtain ⟨l, _, hu⟩ := List.mem_flatMap.1 hu
                      simp only [itm, List.mem_cons, List.not_mem_nil, or_false] at hu
                      rcases hu with rfl | rfl <;> rfl
                    have hone1 : ∀ u ∈ (itms A).take (p * 2), u.oneCell' = true := fun u hu => hone u (List.mem_of_mem_take hu)
                    have hone2 : ∀ u ∈ (itms A).drop ((p + 1) * 2), u.oneCell' = true := fun u hu => hone u (List.mem_of_mem_drop hu)
                    rw [World.size_drew] at hO31
                    have HO5 := Hid.of hO5
                    clear hO5 hx45 hx5 hone cM cI
                    have hcap : p ≤ A.length := by omega
                    have hcap4 : A.length ≤ cv := by have := HO5.out.rd.len; omega
                    have hcap2 : p ≤ cv := by omega
                    have hcap3 : p + 1 ≤ A.length := by omega
                    have hcap5 : (p : Int) + 1 ≤ (A.length : Int) := by omega
                    have hcap6 : (0 : Int) ≤ (p : Int) + 1 := by omega
                    have hwr : IntKind.i64.wrap ((p : Int) + 1) = (p : Int) + 1 := IntWalk.i64_in _ ⟨by omega, by omega⟩
                    have htn : ((p : Int) + 1).toNat = p + 1 := by omega
                    obtain ⟨o2, hif, hR3⟩ : ∃ o2, (if cv = p + 1 then (some ⟨q, off, none⟩ : Option Addr) else some ⟨q, off + (p + 1) * 2, none⟩) = some ⟨q, o2, none⟩ ∧ Rd (w5.drew.alloc (.cells #[] 51)) 2 (.slice (some ⟨q, o2, none⟩) (A.length - (p + 1)) (cv - (p + 1))) (A.length - (p + 1)) ((itms A).drop ((p + 1) * 2)) := by
                      by_cases hce : cv = p + 1
                      · refine ⟨off, by rw [if_pos hce], ?_⟩
                        have e1 : A.length - (p + 1) = 0 := by omega
                        have e2 : cv - (p + 1) = 0 := by omega
                        have e3 : (itms A).drop ((p + 1) * 2) = [] := List.drop_eq_nil_of_le (by rw [itms_len]; omega)
                        rw [e1, e2, e3]
                        exact ⟨rfl, _, _, rfl, Nat.le_refl _, Nat.zero_le _, (fun h => by cases h), fun g hg j u hu => by simp at hu⟩
                      · exact ⟨off + (p + 1) * 2, by rw [if_neg hce], hR2⟩
                    clear hR2
                    go_wp2_with fail
                    go_region_law (first
                      | (refine step_append rfl _ _ _ rfl 51 _ 2 16 el_item (.slice (some ⟨w5.heap.size, 0, none⟩) 0 0) 0 [] rfl hO31 (.slice (some ⟨q, off, none⟩) p cv) p _ rfl hR1 hone1 (by omega) (by unfold maxLen; omega) ?_; intro v6 w6 ho6 hx6 hv6; obtain ⟨a6, c6, rfl⟩ := Rd.isSlice (Own.rd ho6); rw [Nat.zero_add, List.nil_append] at ho6)
                      | (refine step_append rfl _ _ _ rfl 51 _ 2 16 el_item (.slice a6 p c6) p _ rfl ho6 (.slice (some ⟨q, o2, none⟩) (A.length - (p + 1)) (cv - (p + 1))) (A.length - (p + 1)) _ rfl (hR3.keep hx6 (by simp [vblocks]; omega)) hone2 (by omega) (by unfold maxLen; omega) ?_; intro v7 w7 ho7 hx7 hv7; obtain ⟨a7, c7, rfl⟩ := Rd.isSlice (Own.rd ho7)))
                    all_goals (
                      have hlen7 : (A.eraseIdx p).length = p + (A.length - (p + 1)) := by rw [List.length_eraseIdx, if_pos hpn]; omega
                      have hIt : itms (A.eraseIdx p) = (itms A).take (p * 2) ++ (itms A).drop ((p + 1) * 2) := itms_erase A p
                      have hS7 := hS.out.erase p
                      have hX7 := HX5.out
                      generalize A.eraseIdx p = A7 at hlen7 hIt hS7 hX7
                      have hxb : ∀ k ∈ vblocks (.slice a6 p c6), w5.heap.size ≤ k := by
                        intro k hk
                        rw [Nat.zero_add] at hv6
                        rcases hv6 with h | h
                        · rw [h] at hk; simp [vblocks] at hk; omega
                        · rw [h] at hk; simp at hk; omega
                      have hx57 : Ext [] w5 w7 := (hxd.trans hx6 (fun k hk => .inr (by simp [vblocks] at hk; omega))).trans hx7 (fun k hk => .inr (hxb k hk))
                      have hsz6 := (hxd.trans hx6 (fun k hk => .inr (by simp [vblocks] at hk; omega)) : Ext [] w5 w6).size
                      have hb7 : ∀ k ∈ vblocks (.slice a7 (p + (A.length - (p + 1))) c7), w5.heap.size ≤ k := by
                        intro k hk
                        rcases hv7 with h | h
                        · rw [h] at hk; exact hxb k hk
                        · rw [h] at hk; simp at hk; omega
                      have HX7 := ((hX7.mono (O' := []) (by simp)).turn hx57 (by simp) (vblocks (.slice a7 (p + (A.length - (p + 1))) c7)) (fun q hq => ⟨.inr (hb7 q hq), ho7.lt q hq⟩))
                      have HV7 := Hid.of (show ∀ q ∈ vblocks (.slice a7 (p + (A.length - (p + 1))) c7), w.heap.size ≤ q from fun q hq => by have := hb7 q hq; have := hX7.x.size; omega)
                      have HO7 := Hid.of (show Own w7 51 2 (.slice a7 (p + (A.length - (p + 1))) c7) A7.length (itms A7) by rw [hlen7, hIt]; exact ho7)
                      have HS7 := Hid.of hS7
                      clear hX7 hS7 hIt hxb hx57 hsz6 hb7 ho7 hx7 hv7 ho6 hx6 hv6 hxd hO31 hR1 hR3 hone1 hone2 hif htn hwr
                      have cl := xlen HX7
                      have cw := xnow HX7
                      go_wp2_with (first
                        | (go_at_call 14; (with_reducible refine cl.mono ?_); rintro e w8 ⟨rfl, rfl⟩)
                        | (go_at_call 18; (with_reducible refine cw.mono ?_); rintro e w9 ⟨rfl, rfl⟩))
                      exact ⟨⟨k + 1, now, s, A7, by congr 1, by omega, rfl, ⟨by omega, by omega, by omega, by omega, by omega⟩, HO7.out, HX7, HV7.out, HS7.out⟩, by simp [intOf]; omega⟩)
        · have hq2 : (IntKind.u64.wrap ak).tmod 6 = 4 := by rw [hq, hK]; rfl
          clear hq hK hK6
          have cp := xpass hXW ⟨hn0, by omega⟩
          go_wp2_with fail
          rw [← HWW.out]
          refine cp.mono ?_
          rintro e w2 ⟨rfl, h2, f2⟩
          have HX2 := Hid.of (h2.mono (O' := vblocks (.slice av A.length cv)) (fun q hq => by simp [hq]))
          have HO2 := Hid.of (show Own w2 _ _ _ _ _ from by obtain ⟨F, hxF, hF⟩ := f2; exact hOW.keep hxF (fun q hq => hF q (by simp [hq])))
          clear h2 f2 hOW hXW cp ca0 ca1
          have cl := xlen HX2.out
          have cw := xnow HX2.out
          go_wp2_with (first
            | (go_at_call 14; (with_reducible refine cl.mono ?_); rintro e w8 ⟨rfl, rfl⟩)
            | (go_at_call 18; (with_reducible refine cw.mono ?_); rintro e w9 ⟨rfl, rfl⟩))
          exact ⟨⟨k + 1, now + 1, s, A, by congr 1, by omega, rfl, ⟨by omega, by omega, by omega, by omega, by omega⟩, HO2.out, HX2.out, hV.out, hS.out⟩, by simp [intOf]; omega⟩
        · have hq2 : (IntKind.u64.wrap ak).tmod 6 = 5 := by rw [hq, hK]; rfl
          clear hq hK hK6
          have cp := xclear hXW
          go_wp2_with fail
          rw [← HWW.out]
          refine cp.mono ?_
          rintro e w2 ⟨rfl, h2, f2⟩
          have HX2 := Hid.of (h2.mono (O' := []) (by simp))
          clear h2 f2 hOW hXW cp ca0 ca1
          have cl := xlen HX2.out
          have cw := xnow HX2.out
          go_wp2_with (first
            | (go_at_call 14; (with_reducible refine cl.mono ?_); rintro e w8 ⟨rfl, rfl⟩)
            | (go_at_call 18; (with_reducible refine cw.mono ?_); rintro e w9 ⟨rfl, rfl⟩))
          exact ⟨⟨k + 1, now, s, [], by congr 1, by omega, rfl, ⟨by omega, by omega, by omega, by omega, by simp⟩, Own.nil _ _ _, HX2.out, by simp [vblocks, Hid], SeqOrd.nil s⟩, by simp [intOf]; omega⟩
      · have hx := Hid.of hX.out.x
        clear hO hX hV hS
        go_wp2_with (first
          | (go_at_call 13; (with_reducible refine (nsend_nil _ _ _).mono ?_); rintro e w2 ⟨rfl, rfl⟩)
          | (go_at_call 16; (with_reducible refine (npass_nil _).mono ?_); rintro e w3 ⟨rfl, rfl⟩)
          | (go_at_call 17; (with_reducible refine (nclear_nil _).mono ?_); rintro e w4 ⟨rfl, rfl⟩)
          | (go_at_call 15; (with_reducible refine (nnext_nil _).mono ?_); rintro e w5 ⟨rfl, hx5⟩)
          | (refine wpList_new_row rfl rfl 36 _ _ _ rfl rfl rfl rfl _ al_msg Ms.zero.cells rfl (by kernel_rfl) (mcells_one _) rfl rfl ?_)
          | (go_at_call 14; (with_reducible refine (nlen_nil _).mono ?_); rintro e w6 ⟨rfl, rfl⟩)
          | (go_at_call 18; (with_reducible refine (nnow_nil _).mono ?_); rintro e w7 ⟨rfl, rfl⟩))
        go_ret
        exact ⟨rfl, ((hx.out.alloc _).then0 hx5).alloc _⟩
end Go.Proofs.Ytaekkkcgoegllaa
