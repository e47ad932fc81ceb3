/- SumSeals: the walk. -/
import Derived.Test.YtoeccimbechfeaaSum
import Derived.Test.YtoeccimbechfeaaSealLaw
import Derived.Test.YtoeccimbechfeaaBits
import Derived.Deep.DeepCutAuto
namespace Go.Proofs.Ytoeccimbechfeaa
open Go.RowKit
set_option linter.unusedVariables false
attribute [local go_sem] i64_and65535 i64_and255

theorem opens_short (l : List UInt8) (h : l.length < 4) : opens l = false := by simp [opens]; omega

set_option maxRecDepth 100000 in
set_option maxHeartbeats 1600000 in
theorem seals_any (s : List UInt8) (_ : s.length ≤ maxLen) (at_ : Int) (_ : -9223372036854775808 ≤ at_ ∧ at_ ≤ 9223372036854775807) (turn : UInt32) (w : World) :
    Calls Try.prog 9 #[str s, .int .i64 at_, .int .u32 (turn.toNat : Int)] w fun e w' => e = .returned (.bool true) ∧ Ext [] w w' := by
  by_cases h3 : 300 < s.length
  · go_enter Try.func9, Try.ntmps9
    go_wp2_with fail
    refine (head2_any w).mono ?_
    rintro e w1 ⟨rfl, hx⟩
    go_wp2
    go_ret
    exact ⟨rfl, hx⟩
  have hsl : s.length ≤ 300 := by omega
  obtain ⟨T, hT⟩ : ∃ T, T = turn.toNat := ⟨_, rfl⟩
  have hT2 : T < 4294967296 := by have := turn.toNat_lt; omega
  rw [← hT]
  clear hT h3
  go_enter Try.func9, Try.ntmps9
  go_wp2_with fail
  refine (head2_any w).mono ?_
  rintro e w1 ⟨rfl, hx⟩
  go_wp2_with fail
  refine (seal_any s _ (by omega)).mono ?_
  rintro e w2 ⟨rfl, hx2⟩
  have hx3 : Ext [] w w2 := hx.then0 hx2
  have hLl := sealB_length s
  have hLo := opens_sealB s
  have hLb := openB_sealB s
  have hbad := mix_bad s T
  obtain ⟨L, hL⟩ : ∃ L, L = sealB s := ⟨_, rfl⟩
  rw [← hL] at hLl hLo hLb hbad ⊢
  have hop : ∀ w3, Calls Try.prog 28 #[str L] w3 fun e w' => e = .returned (.tuple #[str s, .bool true]) ∧ Ext [] w3 w' := fun w3 => by
    have := open_any L w3 (by omega)
    rw [hLo, hLb] at this
    exact this
  clear hL hx hx2 hLo hLb
  go_wp2_with fail
  refine (hop _).mono ?_
  rintro e w3 ⟨rfl, hx4⟩
  have hx5 : Ext [] w w3 := hx3.then0 hx4
  have bL : ((L.length : Int) == (s.length : Int) + 4) = true := by simp [hLl]
  clear hop hx3 hx4
  by_cases hA : T = 0 ∨ s.length < 4
  · obtain ⟨c, hcc⟩ : ∃ c : Nat, at_ % 256 = (c : Int) := ⟨(at_ % 256).toNat, by omega⟩
    have hex : ByteArray.extract ⟨L.toArray⟩ 0 (c % 4) = ⟨(L.take (c % 4)).toArray⟩ := take_extract L _ (by omega)
    have hlt : (L.take (c % 4)).length < 4 := by simp; omega
    have hof := opens_short _ hlt
    have hop : ∀ w3, Calls Try.prog 28 #[str (L.take (c % 4))] w3 fun e w' => e = .returned (.tuple #[str [], .bool false]) ∧ Ext [] w3 w' := fun w3 => by
      have := open_any (L.take (c % 4)) w3 (by omega)
      rw [openB, hof] at this
      exact this
    clear hof hbad
    have hgo : ((T : Int) == 0) = true ∨ (((T : Int) == 0) = false ∧ s.length < 4) := by
      by_cases h0 : T = 0
      · left; simp [h0]
      · right; exact ⟨by simp [h0], by omega⟩
    clear hA
    rcases hgo with hb | ⟨hb, h4⟩
    · go_wp2_with fail
      refine (hop _).mono ?_
      rintro e w4 ⟨rfl, hx6⟩
      go_wp2
      go_ret
      exact ⟨rfl, hx5.then0 hx6⟩
    · go_wp2_with fail
      refine (hop _).mono ?_
      rintro e w4 ⟨rfl, hx6⟩
      go_wp2
      go_ret
      exact ⟨rfl, hx5.then0 hx6⟩
  · have hT0 : ((T : Int) == 0) = false := by simp; omega
    have h4 : 4 ≤ s.length := by omega
    have hbad' := fun A h => hbad A (by omega) hT2 h4 h
    clear hbad hA
    obtain ⟨c, hcc⟩ : ∃ c : Nat, at_ % 65536 = (c : Int) := ⟨(at_ % 65536).toNat, by omega⟩
    go_wp2_with (first | ((with_reducible refine wpl_bytes (d := some 62) 5 Try.underlying9 Try.underlying23 Try.underlying5 ⟨L.toArray⟩ ?_ ?_ ?_)))
    · rfl
    · show L.length ≤ _; unfold maxLen; omega
    intro cp w4 ho hx6 hsz
    have hx7 : Ext [] w w4 := hx5.then0 hx6
    have ho' : Own w4 5 1 (.slice (some ⟨w3.heap.size, 0, none⟩) (s.length + 4) cp) (s.length + 4) (bcells L) := ho
    have hg : w.heap.size ≤ w3.heap.size := hx5.size
    clear ho hx5 hx6
    obtain ⟨g, hgg⟩ : ∃ g, g = w3.heap.size := ⟨_, rfl⟩
    rw [← hgg] at ho' hsz hg ⊢
    clear hgg
    have hz1 : c % (s.length + 1) ≤ s.length := by have := Nat.mod_lt c (show 0 < s.length + 1 by omega); omega
    obtain ⟨z, hz⟩ : ∃ z, z = c % (s.length + 1) := ⟨_, rfl⟩
    have HZ : Hid (z = c % (s.length + 1)) := hz
    rw [← hz] at hz1
    have hcz : (c : Int) % ((s.length : Int) + 1) = (z : Int) := by rw [hz, Int.natCast_emod]; rfl
    clear hz
    go_upto_if 70 with fail
    go_cut [1] (fun v wx => ∃ A : Nat, v = .int .i64 A ∧ (A = 0 ∨ (4 ≤ A ∧ A ≤ s.length)) ∧ wx = w4)
    case first =>
      clear ho' hx7 hbad'
      by_cases h0 : z = 0
      · have e0 : (0 : Int) < (z : Int) ↔ False := by simp [h0]
        go_wp2
        go_meet
        exact ⟨0, by rw [hcz, h0], .inl rfl, rfl⟩
      · have e0 : (0 : Int) < (z : Int) := by omega
        have hy : (z : Int) % 65536 = z := by omega
        have hq0 : z % (s.length - 3) < s.length - 3 := Nat.mod_lt z (by omega)
        obtain ⟨y, hyy⟩ : ∃ y, y = z % (s.length - 3) := ⟨_, rfl⟩
        rw [← hyy] at hq0
        have hyz : (z : Int) % ((s.length : Int) - 3) = (y : Int) := by
          rw [hyy, Int.natCast_emod]; congr 1; omega
        clear hyy
        go_wp2
        go_meet
        exact ⟨4 + y, by go_num, .inr (by omega), rfl⟩
    case rest =>
      obtain ⟨A, rfl, hA, rfl⟩ := hcut
      have hbad := hbad' A hA
      clear hbad' HZ hcz hz1 hcc
      have hx0 : mix L A T 0 = L := rfl
      rw [← hx0] at ho'
      clear hx0
      have hml := mix_length L A T
      go_wp2
      go_loopw [13] (fun i wr => ∃ k : Nat, k ≤ 4 ∧ i = .int .i64 k ∧ Own wr 5 1 (.slice (some ⟨g, 0, none⟩) (s.length + 4) cp) (s.length + 4) (bcells (mix L A T k)) ∧ Ext [] w wr) (fun i _ => 4 - (intOf i).toNat)
      case atStart => exact ⟨0, by omega, rfl, ho', hx7⟩
      case round =>
        clear ho' hx7 hsz
        obtain ⟨k, hk, rfl, ho, hxr⟩ := hrel
        by_cases hlt : k < 4
        · have hAk : A + k < s.length + 4 := by omega
          have hc0 := ho.cell (A + k) (by omega)
          have hf0 := ho.frozen (A + k) (by omega)
          have hst := ho.store (A + k) (.int .u8 ((((mix L A T k).getD (A + k) 0) ^^^ tb T k).toNat : Int)) (by omega)
          rw [Nat.zero_add] at hc0 hf0 hst
          have hml2 := hml k
          rw [bcells, List.getElem?_map, List.getElem?_eq_getElem (by omega), Option.map_some] at hc0
          have hgd : (mix L A T k).getD (A + k) 0 = (mix L A T k)[A + k]'(by omega) := by simp [List.getD, show A + k < (mix L A T k).length by omega]
          rw [← hgd] at hc0
          have hbs : (bcells (mix L A T k)).set (A + k) (.int .u8 ((((mix L A T k).getD (A + k) 0) ^^^ tb T k).toNat : Int)) = bcells (mix L A T (k + 1)) := by
            rw [mix, bcells, bcells, List.map_set]
          rw [hbs] at hst
          obtain ⟨x, hx⟩ : ∃ x, x = (mix L A T k).getD (A + k) 0 := ⟨_, rfl⟩
          rw [← hx] at hc0 hst
          have hxt := b8_xor x (tb T k)
          have hxe := hxr.setCell (p := ⟨g, A + k, none⟩) (.inr hg) (.int .u8 ((x ^^^ tb T k).toNat : Int))
          have hk4 : k = 0 ∨ k = 1 ∨ k = 2 ∨ k = 3 := by omega
          clear hgd hbs hx ho hxr hml2 hml hbad
          rcases hk4 with rfl | rfl | rfl | rfl
          · have ht : ((tb T 0).toNat : Int) = (T : Int) % 256 := by rw [tb, ofNat_toNat_int]; simp
            rw [ht] at hxt
            simp only [Nat.add_zero] at hc0 hf0 hst hxe
            go_wp2
            go_roundw
            case rel => exact ⟨1, by omega, by go_num, hst, hxe⟩
            case measure => simp [intOf]
          · have ht : ((tb T 1).toNat : Int) = (T : Int) / 256 % 256 := by rw [tb, ofNat_toNat_int]; simp
            rw [ht] at hxt
            go_wp2
            go_roundw
            case rel => exact ⟨2, by omega, by go_num, hst, hxe⟩
            case measure => simp [intOf]
          · have ht : ((tb T 2).toNat : Int) = (T : Int) / 65536 % 256 := by rw [tb, ofNat_toNat_int]; simp
            rw [ht] at hxt
            go_wp2
            go_roundw
            case rel => exact ⟨3, by omega, by go_num, hst, hxe⟩
            case measure => simp [intOf]
          · have ht : ((tb T 3).toNat : Int) = (T : Int) / 16777216 := by rw [tb, ofNat_toNat_int]; simp; omega
            rw [ht] at hxt
            go_wp2
            go_roundw
            case rel => exact ⟨4, by omega, by go_num, hst, hxe⟩
            case measure => simp [intOf]
        · obtain rfl : k = 4 := by omega
          have hob : Rd wr 1 (.slice (some ⟨g, 0, none⟩) (s.length + 4) cp) (s.length + 4) (bcells (mix L A T 4)) := Own.rd ho
          have hs := run_string_Rd (P := Try.prog) 23 9 5 Try.underlying23 Try.underlying5 Try.underlying9 _ _ _ hob
          have hmk := hml 4
          obtain ⟨M, hM⟩ : ∃ M, M = mix L A T 4 := ⟨_, rfl⟩
          rw [← hM] at hs hbad hmk
          clear hob ho hM hml
          have hop : ∀ w3, Calls Try.prog 28 #[str M] w3 fun e w' => e = .returned (.tuple #[str [], .bool false]) ∧ Ext [] w3 w' := fun w3 => by
            have := open_any M w3 (by omega)
            rw [openB, hbad] at this
            exact this
          clear hbad
          go_wp2_with fail
          refine (hop _).mono ?_
          rintro e w4 ⟨rfl, hx6⟩
          go_wp2
          go_ret
          exact ⟨rfl, hxr.then0 hx6⟩
end Go.Proofs.Ytoeccimbechfeaa
