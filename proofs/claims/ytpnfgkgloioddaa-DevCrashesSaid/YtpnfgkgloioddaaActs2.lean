/- Play, Few, New of law 03. -/
import Derived.Test.YtpnfgkgloioddaaMdl
namespace Go.Proofs.Ytpnfgkgloioddaa
open Go.RowKit
set_option linter.unusedVariables false
set_option linter.unusedSimpArgs false
attribute [local go_sem high] run_max2 run_min2

theorem acK_eq2 (a : Ac) : (IntKind.u64.wrap a.k).tmod 6 = (acK a : Int) := by
  unfold acK uint
  rw [IntKind.wrap_u64, Int.tmod_eq_emod_of_nonneg (Int.emod_nonneg _ (by omega))]
  omega
theorem DvOk.act {D : Dv} (h : DvOk D) (a : Ac) (ha : WfAc a) : DvOk (actD a D) := by
  unfold actD
  split
  · exact h.write _ _
  · split
    · exact h.flush
    · split
      · exact h.flip _ _ _
      · split
        · exact h.lose _
        · exact h.fallD _ ha.2.2.1.2
theorem DevTo.same {w w1 : World} {b : Nat} {F : List Nat} {D : Dv} (h : DevTo w w1 b F D) {w0 : World} (hx : Ext [] w0 w) : DevTo w0 w1 b F D := by
  obtain ⟨h1, F', h2, h3⟩ := h
  have := hx.size
  exact ⟨(hx.mono (by simp)).trans h1 (fun z hz => .inl hz), F', h2, fun k hk => (h3 k hk).imp_right (fun h => by omega)⟩
set_option maxRecDepth 100000 in
set_option maxHeartbeats 6400000 in
theorem play_any (b : Nat) (F : List Nat) (D : Dv) (a : Ac) (ha : WfAc a) (w : World) (h : DevAt w b F D) (hok : DvOk D) (hlen : D.since.length ≤ 1000000) :
    Calls Try.prog 34 #[.pointer (some ⟨b, 0, none⟩), a.val] w fun e w' => e = .returned (.int .i64 (actE a D)) ∧ DevTo w w' b F (actD a D) := by
  have cW := fun W hW => write_any b F D a.block a.data W hW hok hlen
  have cF := fun W hW => flush_any b F D W hW hok
  have cP := fun W hW => flip_any b F D a.block a.n a.bits W hW hok ha.2.2.1
  have cL := fun W hW => lose_any b F D a.block W hW
  have cA := fun W hW => fall_any b F D a.n W hW
  have hq := acK_eq2 a
  have HE : Hid (actE a D = if acK a = 0 ∨ acK a = 1 then writeE a.block a.data D else if acK a = 2 then turnE D else 0) := rfl
  have HD : Hid (actD a D = if acK a = 0 ∨ acK a = 1 then writeD a.block a.data D else if acK a = 2 then flushD D else if acK a = 3 then flipD a.block a.n a.bits D else if acK a = 4 then loseD a.block D else fallD a.n D) := rfl
  have hK6 : acK a < 6 := Nat.mod_lt _ (by omega)
  obtain ⟨K, hK⟩ : ∃ K, K = acK a := ⟨_, rfl⟩
  rw [← hK] at hq HE HD hK6
  obtain ⟨E, hE⟩ : ∃ E, E = actE a D := ⟨_, rfl⟩
  obtain ⟨D', hD'⟩ : ∃ E, E = actD a D := ⟨_, rfl⟩
  rw [← hE] at HE ⊢
  rw [← hD'] at HD ⊢
  clear hK hE hD' hok hlen ha
  obtain ⟨k, bl, n, s, c⟩ := a
  unfold Ac.val
  simp only at cW cF cP cL cA hq HE HD ⊢
  have hal : Ext [] w (w.alloc (.cells #[.int .i64 k, .int .i64 bl, .int .i64 n, .string ⟨s.toArray⟩, .int .u8 (c.toNat : Int)] 59)) := (Ext.refl _ _).alloc _
  have h2 := h.keep0 hal
  clear h
  rcases (show K = 0 ∨ K = 1 ∨ K = 2 ∨ K = 3 ∨ K = 4 ∨ K = 5 by omega) with rfl | rfl | rfl | rfl | rfl | rfl
  · have hq2 : (IntKind.u64.wrap k).tmod 6 = 0 := hq
    clear hq hK6
    go_enter Try.func34, Try.ntmps34
    go_wp2_with fail
    refine (cW _ h2).mono ?_
    rintro e w1 ⟨rfl, ht⟩
    go_wp2
    go_ret
    rw [HE.out, HD.out]
    exact ⟨rfl, ht.same hal⟩
  · have hq2 : (IntKind.u64.wrap k).tmod 6 = 1 := hq
    clear hq hK6
    go_enter Try.func34, Try.ntmps34
    go_wp2_with fail
    refine (cW _ h2).mono ?_
    rintro e w1 ⟨rfl, ht⟩
    go_wp2
    go_ret
    rw [HE.out, HD.out]
    exact ⟨rfl, ht.same hal⟩
  · have hq2 : (IntKind.u64.wrap k).tmod 6 = 2 := hq
    clear hq hK6
    go_enter Try.func34, Try.ntmps34
    go_wp2_with fail
    refine (cF _ h2).mono ?_
    rintro e w1 ⟨rfl, ht⟩
    go_wp2
    go_ret
    rw [HE.out, HD.out]
    exact ⟨rfl, ht.same hal⟩
  · have hq2 : (IntKind.u64.wrap k).tmod 6 = 3 := hq
    clear hq hK6
    go_enter Try.func34, Try.ntmps34
    go_wp2_with fail
    refine (cP _ h2).mono ?_
    rintro e w1 ⟨rfl, ht⟩
    go_wp2
    go_ret
    rw [HE.out, HD.out]
    exact ⟨rfl, ht.same hal⟩
  · have hq2 : (IntKind.u64.wrap k).tmod 6 = 4 := hq
    clear hq hK6
    go_enter Try.func34, Try.ntmps34
    go_wp2_with fail
    refine (cL _ h2).mono ?_
    rintro e w1 ⟨rfl, ht⟩
    go_wp2
    go_ret
    rw [HE.out, HD.out]
    exact ⟨rfl, ht.same hal⟩
  · have hq2 : (IntKind.u64.wrap k).tmod 6 = 5 := hq
    clear hq hK6
    go_enter Try.func34, Try.ntmps34
    go_wp2_with fail
    refine (cA _ h2).mono ?_
    rintro e w1 ⟨rfl, ht⟩
    go_wp2
    go_ret
    rw [HE.out, HD.out]
    exact ⟨rfl, ht.same hal⟩

/-- Few. -/
def fewA (l : List Ac) : Bool := decide ((∀ a ∈ l, a.data.length ≤ 600) ∧ l.length ≤ 60)
set_option maxHeartbeats 3200000 in
theorem few3_any (ad : Option Addr) (len cap : Nat) (l : List Ac) (w : World) (hR : Rd w 5 (.slice ad len cap) len (l.flatMap Ac.cells)) :
    Calls Try.prog 32 #[.slice ad len cap] w fun e w' => e = .returned (.bool (fewA l)) ∧ Ext [] w w' := by
  have hl : l.length = len := by have := hR.len.2.2.2; rw [flatMap_len _ 5 acells_len] at this; omega
  have hlm : len ≤ 9223372036854775807 := by have := hR.len; unfold maxLen at this; omega
  go_enter Try.func32, Try.ntmps32
  go_wp2_with fail
  go_loopw [7] (fun i wr => ∃ k : Nat, k ≤ len ∧ i = .int .i64 k ∧ Ext [] w wr ∧ ∀ j : Nat, (hj : j < l.length) → j < k → (l[j]).data.length ≤ 600) (fun i _ => len - (intOf i).toNat)
  case atStart => exact ⟨0, by omega, rfl, Ext.refl _ _, by omega⟩
  case round =>
    obtain ⟨k, hk, rfl, hx, hp⟩ := hrel
    have HP : Hid (∀ j : Nat, (hj : j < l.length) → j < k → (l[j]).data.length ≤ 600) := hp
    clear hp
    by_cases hlt : k < len
    · obtain ⟨g, off, rfl, hbw, hc⟩ := hR.view (by omega)
      have hkl : k < l.length := by omega
      have c0 : wr.cell? ⟨g, off + k * 5, none⟩ = some (.int .i64 (l[k]).k) := hx.cell (by simp) (hc (k * 5 + 0) _ (by rw [flatMap_get _ 5 acells_len _ k 0 hkl (by omega)]; rfl))
      have c1 : wr.cell? ⟨g, off + (k * 5 + 1), none⟩ = some (.int .i64 (l[k]).block) := hx.cell (by simp) (hc (k * 5 + 1) _ (by rw [flatMap_get _ 5 acells_len _ k 1 hkl (by omega)]; rfl))
      have c2 : wr.cell? ⟨g, off + (k * 5 + 2), none⟩ = some (.int .i64 (l[k]).n) := hx.cell (by simp) (hc (k * 5 + 2) _ (by rw [flatMap_get _ 5 acells_len _ k 2 hkl (by omega)]; rfl))
      have c3 : wr.cell? ⟨g, off + (k * 5 + 3), none⟩ = some (str (l[k]).data) := hx.cell (by simp) (hc (k * 5 + 3) _ (by rw [flatMap_get _ 5 acells_len _ k 3 hkl (by omega)]; rfl))
      have c4 : wr.cell? ⟨g, off + (k * 5 + 4), none⟩ = some (.int .u8 ((l[k]).bits.toNat : Int)) := hx.cell (by simp) (hc (k * 5 + 4) _ (by rw [flatMap_get _ 5 acells_len _ k 4 hkl (by omega)]; rfl))
      rw [← Nat.add_assoc] at c1 c2 c3 c4
      have HF : Hid (600 < (l[k]).data.length → fewA l = false) := by
        intro h
        unfold fewA
        simp only [decide_eq_false_iff_not]
        intro hh
        have := hh.1 l[k] (List.getElem_mem _)
        omega
      have HN : Hid ((l[k]).data.length ≤ 600 → ∀ j : Nat, (hj : j < l.length) → j < k + 1 → (l[j]).data.length ≤ 600) := by
        intro h j hj hjk
        by_cases hjk2 : j < k
        · exact HP.out j hj hjk2
        · obtain rfl : j = k := by omega
          exact h
      obtain ⟨a, ha⟩ : ∃ a, a = l[k] := ⟨_, rfl⟩
      rw [← ha] at c0 c1 c2 c3 c4 HF HN
      clear hc ha HP hkl hl hR
      obtain ⟨ak, ab, an, sx, ac⟩ := a
      simp only at c0 c1 c2 c3 c4 HF HN
      by_cases h6 : 600 < sx.length
      · have hf := HF.out h6
        have HF2 : Hid (fewA l = false) := hf
        clear hf HF HN
        go_wp2
        go_ret
        rw [HF2.out]
        exact ⟨rfl, hx.alloc _⟩
      · have hn := HN.out (by omega)
        have HN2 : Hid (∀ j : Nat, (hj : j < l.length) → j < k + 1 → (l[j]).data.length ≤ 600) := hn
        clear hn HF HN
        go_wp2
        go_roundw
        case rel => exact ⟨k + 1, by omega, by go_num, hx.alloc _, HN2.out⟩
        case measure => simp [intOf]; omega
    · have hkl : k = len := by omega
      have hall : ∀ a ∈ l, a.data.length ≤ 600 := by
        intro a ha
        obtain ⟨j, hj, rfl⟩ := List.getElem_of_mem ha
        exact HP.out j hj (by omega)
      have HF : Hid (fewA l = decide ((len : Int) ≤ 60)) := by
        show _ = _
        unfold fewA
        rw [decide_eq_decide]
        constructor
        · intro h; have := h.2; omega
        · intro h; exact ⟨hall, by omega⟩
      clear hall hkl HP hl
      go_wp2
      go_ret
      rw [HF.out]
      exact ⟨rfl, hx⟩
end Go.Proofs.Ytpnfgkgloioddaa
