/- NetDelays: the walk. -/
import Derived.Test.YtaekkkcgoegllaaNetk
namespace Go.Proofs.Ytaekkkcgoegllaa
open Go.RowKit
set_option linter.unusedVariables false
set_option linter.unusedSimpArgs false
attribute [local go_sem] i64_and15

def dlt (ns : List Int) (i : Nat) : Lt := ⟨ns.getD i 0 % 16, (i : Int) + 1, Ms.ix (i : Int)⟩
def dl (ns : List Int) (k : Nat) : List Lt := (List.range k).map (dlt ns)
theorem dl_succ (ns : List Int) (k : Nat) : dl ns (k + 1) = dl ns k ++ [dlt ns k] := by
  unfold dl; rw [List.range_succ]; simp
theorem dl_length (ns : List Int) (k : Nat) : (dl ns k).length = k := by simp [dl]
def DInv (ns : List Int) (t last : Int) (A : List Lt) : Prop :=
  (∀ y ∈ A, ∃ i : Nat, i < ns.length ∧ y = dlt ns i) ∧ (A.map (·.seq)).Nodup ∧ ∀ y ∈ A, t ≤ y.due ∧ (y.due = t → last < y.m.index)
theorem DInv.perm {ns : List Int} {t last : Int} {A B : List Lt} (h : DInv ns t last A) (hp : A.Perm B) : DInv ns t last B :=
  ⟨fun y hy => h.1 y (hp.mem_iff.2 hy), (hp.map _).nodup_iff.1 h.2.1, fun y hy => h.2.2 y (hp.mem_iff.2 hy)⟩
theorem DInv.all (ns : List Int) : DInv ns 0 (-1) (dl ns ns.length) := by
  refine ⟨fun y hy => ?_, ?_, fun y hy => ?_⟩
  · unfold dl at hy
    obtain ⟨i, hi, rfl⟩ := List.mem_map.1 hy
    exact ⟨i, by simpa using hi, rfl⟩
  · unfold dl
    rw [List.map_map]
    refine List.Pairwise.map _ (fun i j hij => ?_) List.nodup_range
    simp only [Function.comp, dlt]
    omega
  · unfold dl at hy
    obtain ⟨i, hi, rfl⟩ := List.mem_map.1 hy
    exact ⟨Int.emod_nonneg _ (by decide), fun _ => by show -1 < (i : Int); omega⟩
theorem DInv.pass {ns : List Int} {t last : Int} {A : List Lt} (h : DInv ns t last A) (hn : ∀ y ∈ A, t < y.due) : DInv ns (t + 1) (-1) A := by
  refine ⟨h.1, h.2.1, fun y hy => ⟨by have := hn y hy; omega, fun _ => ?_⟩⟩
  obtain ⟨i, hi, rfl⟩ := h.1 y hy
  show -1 < (i : Int)
  omega
theorem DInv.none {ns : List Int} {last : Int} {A : List Lt} (h : DInv ns 17 last A) : A = [] := by
  cases A with
  | nil => rfl
  | cons y r =>
    obtain ⟨i, hi, rfl⟩ := h.1 y (by simp)
    have h1 := (h.2.2 _ (List.mem_cons_self)).1
    have : ns.getD i 0 % 16 < 16 := Int.emod_lt_of_pos _ (by decide)
    have h2 : (17 : Int) ≤ ns.getD i 0 % 16 := h1
    omega
theorem DInv.next {ns : List Int} {t last : Int} {A A' : List Lt} {x : Lt} (h : DInv ns t last A) (hp : A.Perm (A' ++ [x])) (hm : ∀ y ∈ A, ltL y x = false) (hd : x.due ≤ t) :
    ∃ i : Nat, i < ns.length ∧ x = dlt ns i ∧ ns.getD i 0 % 16 = t ∧ last < (i : Int) ∧ DInv ns t (i : Int) A' ∧ A.length = A'.length + 1 := by
  have hx : x ∈ A := hp.mem_iff.2 (by simp)
  obtain ⟨i, hi, rfl⟩ := h.1 x hx
  have h1 := h.2.2 _ hx
  have ht : ns.getD i 0 % 16 = t := by
    have : t ≤ ns.getD i 0 % 16 := h1.1
    have : ns.getD i 0 % 16 ≤ t := hd
    omega
  have hl : last < (i : Int) := h1.2 ht
  refine ⟨i, hi, rfl, ht, hl, ⟨fun y hy => h.1 y (hp.mem_iff.2 (by simp [hy])), ?_, fun y hy => ?_⟩, by rw [hp.length_eq]; simp⟩
  · have h2 := (hp.map (·.seq)).nodup_iff.1 h.2.1
    rw [List.map_append] at h2
    exact (List.nodup_append.1 h2).1
  · have hyA : y ∈ A := hp.mem_iff.2 (by simp [hy])
    refine ⟨(h.2.2 y hyA).1, fun hyt => ?_⟩
    obtain ⟨j, hj, rfl⟩ := h.1 y hyA
    have h3 := hm _ hyA
    have h2 := (hp.map (·.seq)).nodup_iff.1 h.2.1
    rw [List.map_append] at h2
    have h4 := (List.nodup_append.1 h2).2.2 ((j : Int) + 1) (List.mem_map.2 ⟨_, hy, rfl⟩) ((i : Int) + 1) (by simp [dlt])
    unfold ltL at h3
    rw [if_pos (by rw [hyt]; exact ht.symm)] at h3
    have h5 : ¬ ((j : Int) + 1 < (i : Int) + 1) := by simpa [dlt] using h3
    show (i : Int) < (j : Int)
    omega
theorem clamp16 (d : Int) : (0 : Int) + min (max (d % 16) 0) 1048576 = d % 16 := by
  have h1 : 0 ≤ d % 16 := Int.emod_nonneg _ (by decide)
  have h2 : d % 16 < 16 := Int.emod_lt_of_pos _ (by decide)
  omega
set_option maxRecDepth 100000 in
set_option maxHeartbeats 12800000 in
theorem delays_any {w : World} (a : Option Addr) (len cap : Nat) (ns : List Int) (hR : Rd w 1 (.slice a len cap) len (ns.map (Value.int .i64))) (hwf : ∀ n ∈ ns, (Lit.int .i64 n).wf = true) :
    Calls Try.prog 4 #[.slice a len cap] w fun e w' => e = .returned (.bool true) ∧ Ext [] w w' := by
  have hl : ns.length = len := by have := hR.len; simp at this; omega
  by_cases h40 : 40 < len
  · go_enter Try.func4, Try.ntmps4
    go_wp2_with ((go_at_call 12; (with_reducible refine (head_any _).mono ?_); rintro e w1 ⟨rfl, hx1⟩))
    go_ret
    exact ⟨rfl, hx1⟩
  · have hR0 : ∀ k, (hk : k < len) → ∃ b off, a = some ⟨b, off, none⟩ ∧ ∀ wr, Ext [] w wr → ∀ j, (hj : j < len) → wr.cell? ⟨b, off + j, none⟩ = some (.int .i64 (ns.getD j 0)) := by
      intro k hk
      obtain ⟨b, off, rfl, hbw, hc⟩ := hR.view (by omega)
      refine ⟨b, off, rfl, fun wr hx j hj => hx.cell (by simp) (hc j _ ?_)⟩
      rw [List.getElem?_map, List.getElem?_eq_getElem (by omega)]
      simp [List.getD, List.getElem?_eq_getElem (show j < ns.length by omega)]
    have HL := Hid.of hl
    have HR := Hid.of hR0
    clear hR hwf hl hR0
    go_enter Try.func4, Try.ntmps4
    go_wp2_with ((go_at_call 12; (with_reducible refine (head_any _).mono ?_); rintro e w1 ⟨rfl, hx1⟩; have H0 := Hid.of (NetX.mk1 hx1 (Ext.refl _ _)); clear hx1))
    go_loopw [20] (fun u20 wr => ∃ (k : Nat), u20 = .int .i64 (k : Int) ∧ k ≤ len ∧ Hid (NetX w wr w1.heap.size 0 (k : Int) (dl ns k) [])) (fun u20 _ => len - (intOf u20).toNat)
    case atStart => exact ⟨0, rfl, by omega, H0.out⟩
    case round =>
      obtain ⟨k, rfl, hk, hX⟩ := hrel
      by_cases hlt : k < len
      · obtain ⟨q, off, rfl, hc⟩ := HR.out k hlt
        have cq := hc wr hX.out.x k hlt
        have HC := Hid.of hc
        obtain ⟨D, hD⟩ : ∃ D, D = ns.getD k 0 := ⟨_, rfl⟩
        rw [← hD] at cq
        have HD := Hid.of hD
        clear hc hD
        go_wp2_with fail
        refine (xsend1 hX.out (by rw [dl_length]; omega) (D % 16) (by omega) (by omega) wr.heap.size rfl (Ms.ix (k : Int))).mono ?_
        rintro e w2 ⟨rfl, h2, -⟩
        rw [clamp16] at h2
        have H2 := Hid.of h2
        clear h2 cq
        go_wp2
        go_roundw
        case rel => exact ⟨k + 1, by congr 1, by omega, show NetX _ _ _ _ _ _ _ by rw [dl_succ, show ((k + 1 : Nat) : Int) = (k : Int) + 1 from by omega]; unfold dlt; rw [← HD.out]; exact H2.out⟩
        case measure => simp [intOf]; omega
      · obtain rfl : k = len := by omega
        have H1 : Hid (NetX w wr w1.heap.size 0 (k : Int) (dl ns k) []) := hX
        have HI : Hid (DInv ns 0 (-1) (dl ns k)) := by have := DInv.all ns; rw [HL.out] at this; exact this
        have HA : Hid ((dl ns k).length = k) := dl_length ns k
        clear hX H0
        go_wp2
        go_loopw [6, 7] (fun u6 u7 wr2 => ∃ (t c : Nat) (s : Int) (A : List Lt), u7 = .int .i64 (t : Int) ∧ t ≤ 17 ∧ u6 = .int .i64 (c : Int) ∧ Hid (NetX w wr2 w1.heap.size (t : Int) s A []) ∧ Hid (DInv ns (t : Int) (-1) A) ∧ Hid (c + A.length = k)) (fun _ u7 _ => 17 - (intOf u7).toNat)
        case atStart => exact ⟨0, 0, (k : Int), dl ns k, rfl, by omega, rfl, H1, HI, show _ = _ by rw [HA.out]; omega⟩
        case round =>
          obtain ⟨t, c, s, A, rfl, ht, rfl, hX, hI, hc⟩ := hrel
          by_cases h17 : t < 17
          · have ht17 : (t : Int) < 17 := by omega
            go_wp2
            go_loopw [6, 8] (fun u6 u8 wr3 => ∃ (c : Nat) (last s : Int) (A : List Lt), u6 = .int .i64 (c : Int) ∧ u8 = .int .i64 last ∧ Hid (NetX w wr3 w1.heap.size (t : Int) s A []) ∧ Hid (DInv ns (t : Int) last A) ∧ Hid (c + A.length = k)) (fun u6 _ _ => k - (intOf u6).toNat)
            case atStart => exact ⟨c, -1, s, A, rfl, rfl, hX, hI, hc⟩
            case round =>
              obtain ⟨c, last, s, A, rfl, rfl, hX, hI, hc⟩ := hrel
              by_cases hy : ∃ y ∈ A, y.due ≤ (t : Int)
              · obtain ⟨y, hyA, hyt⟩ := hy
                have cn := xnext_yes hX.out (by have := hc.out; omega) y hyA hyt
                have ck : c < k := by have := hc.out; have := List.length_pos_of_mem hyA; omega
                go_wp2_with (first
                  | (go_at_call 15; (with_reducible refine cn.mono ?_); rintro e w5 ⟨x, A5, hp, hm, hd, rfl, h5, -⟩; obtain ⟨i, hi, rfl, hit, hli, hI5, hlen5⟩ := hI.out.next hp hm hd; rw [HL.out] at hi; obtain ⟨q, off, rfl, hcq⟩ := HR.out i hi; have c4 : (w5.alloc (.cells (dlt ns i).m.cells.toArray 36)).cell? ⟨w5.heap.size, 4, none⟩ = some (.int .i64 (i : Int)) := (Blk.new w5 36 (dlt ns i).m.cells.toArray).c 4; have c5 := hcq _ ((h5.ext0 ((Ext.refl [] w5).alloc (.cells (dlt ns i).m.cells.toArray 36))).x) i hi; generalize ns.getD i 0 = D at c5 hit; have hi1 : ¬ (i : Int) < 0 := (by omega); have hi2 : ¬ (k : Int) ≤ (i : Int) := (by omega); have hi3 : ¬ (i : Int) ≤ last := (by omega); have hi4 : (i : Int) < (k : Int) := (by omega); have H5 := Hid.of (h5.ext0 ((Ext.refl [] w5).alloc (.cells (dlt ns i).m.cells.toArray 36))); have HI5 := Hid.of hI5; have HN5 := Hid.of hlen5; clear h5 hI5 hlen5 hp hm hd cn hcq)
                  | (refine wpList_new_row rfl rfl 36 _ _ _ rfl rfl rfl rfl _ al_msg (dlt ns i).m.cells rfl (by kernel_rfl) (mcells_one _) rfl rfl ?_))
                refine ⟨⟨c + 1, (i : Int), s, A5, by congr 1, rfl, H5.out, HI5.out, ?_⟩, by simp [intOf]; omega⟩
                show _ = _
                have h1 := hc.out
                have h2 := HN5.out
                omega
              · have hno : ∀ y ∈ A, (t : Int) < y.due := fun y hyA => Int.not_le.1 fun h => hy ⟨y, hyA, h⟩
                have cn := xnext_no hX.out (by have := hc.out; omega) hno
                have HN := Hid.of (hI.out.pass hno)
                clear hno hy
                go_wp2_with (first
                  | (go_at_call 15; (with_reducible refine cn.mono ?_); rintro e w5 ⟨rfl, hx5⟩; have h6 := (hX.out.ext0 hx5).ext0 ((Ext.refl [] w5).alloc (.cells Ms.zero.cells.toArray 36)); have cp := xpass h6 (by omega); clear hx5 cn)
                  | (refine wpList_new_row rfl rfl 36 _ _ _ rfl rfl rfl rfl _ al_msg Ms.zero.cells rfl (by kernel_rfl) (mcells_one _) rfl rfl ?_)
                  | (go_at_call 16; (with_reducible refine cp.mono ?_); rintro e w7 ⟨rfl, h7, -⟩))
                refine ⟨⟨t + 1, c, s, A, by congr 1, by omega, rfl, ?_, ?_, hc⟩, by simp [intOf]; omega⟩
                · show NetX _ _ _ _ _ _ _
                  rw [show ((t + 1 : Nat) : Int) = (t : Int) + 1 from by omega]
                  exact h7
                · show DInv _ _ _ _
                  rw [show ((t + 1 : Nat) : Int) = (t : Int) + 1 from by omega]
                  exact HN.out
          · obtain rfl : t = 17 := by omega
            have hA0 : A = [] := hI.out.none
            subst hA0
            have hck : (c : Int) = (k : Int) := by have := hc.out; simp at this; omega
            have cl := xlen hX.out
            have hx := Hid.of hX.out.x
            go_wp2_with ((go_at_call 14; (with_reducible refine cl.mono ?_); rintro e w5 ⟨rfl, rfl⟩))
            go_ret
            exact ⟨rfl, hx.out⟩
end Go.Proofs.Ytaekkkcgoegllaa
