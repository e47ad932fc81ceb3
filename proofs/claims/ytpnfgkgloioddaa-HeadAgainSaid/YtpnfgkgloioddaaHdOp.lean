/- head.Open, Head. -/
import Derived.Test.YtpnfgkgloioddaaHd
namespace Go.Proofs.Ytpnfgkgloioddaa
open Go.RowKit
set_option linter.unusedVariables false

/-- What Open has found. -/
structure Os where
  empty : Int
  good : Bool
  h : Hd
  turn : Int
def os0 : Os := ⟨0, false, Hd.one, 0⟩
def opStep (c : Cp) (s : Os) : Os := if c.st = 0 then { s with empty := s.empty + 1 } else if c.st = 1 ∧ (s.good = false ∨ s.turn < c.turn) then ⟨s.empty, true, c.h, c.turn⟩ else s
def osK (D : Dv) : Nat → Os
  | 0 => os0
  | k + 1 => opStep (cpOf k D) (osK D k)
def openE (D : Dv) : Int := if (cpOf 0 D).e ≠ 0 then (cpOf 0 D).e else if (cpOf 1 D).e ≠ 0 then (cpOf 1 D).e else if (osK D 2).good = false ∧ ((osK D 2).empty = 0 ∨ ((osK D 2).empty = 1 ∧ (cpOf 1 D).st ≠ 0)) then 6 else 0
theorem openE_err {D : Dv} (k : Nat) (hk : k < 2) (hp : ∀ j : Nat, j < k → (cpOf j D).e = 0) (he : (cpOf k D).e ≠ 0) : openE D = (cpOf k D).e := by
  match k, hk with
  | 0, _ => exact if_pos he
  | 1, _ =>
    have h0 : (cpOf 0 D).e = 0 := hp 0 (by omega)
    unfold openE
    rw [if_neg (by simp [h0])]
    exact if_pos he
theorem openE_two {D : Dv} (hp : ∀ j : Nat, j < 2 → (cpOf j D).e = 0) : openE D = if (osK D 2).good = false ∧ ((osK D 2).empty = 0 ∨ ((osK D 2).empty = 1 ∧ (cpOf 1 D).st ≠ 0)) then 6 else 0 := by
  have h0 : (cpOf 0 D).e = 0 := hp 0 (by omega)
  have h1 : (cpOf 1 D).e = 0 := hp 1 (by omega)
  unfold openE
  rw [if_neg (by simp [h0]), if_neg (by simp [h1])]
theorem osK_bound (D : Dv) : ∀ k : Nat, 0 ≤ (osK D k).empty ∧ (osK D k).empty ≤ k
  | 0 => by simp [osK, os0]
  | k + 1 => by
    have := osK_bound D k
    unfold osK opStep
    split
    · simp only; omega
    · split
      · simp only; omega
      · omega

/-- A store at block q, of the device at block b. -/
def StAt (w : World) (q b : Nat) (t : Int) (h : Hd) : Prop := Blk w q 116 [.pointer (some ⟨b, 0, none⟩), .int .i64 t, .int .i64 h.term, .int .i64 h.vote, .int .i64 h.first, .int .i64 h.base]
theorem StAt.keep {w w' : World} {q b : Nat} {t : Int} {h : Hd} {F : List Nat} (hs : StAt w q b t h) (hx : Ext F w w') (hq : q ∉ F) : StAt w' q b t h := Blk.keep hs hx hq
theorem StAt.kept {w w' : World} {q b : Nat} {t : Int} {h : Hd} {O : List Nat} (hs : StAt w q b t h) (hk : Kept O w w') (hq : q ∈ O) : StAt w' q b t h := hk q hq _ hs
theorem StAt.set {w : World} {q b : Nat} {t : Int} {h : Hd} (hs : StAt w q b t h) (n x v f bb : Int) :
    StAt (((((w.setCell ⟨q, 2, none⟩ (.int .i64 x)).setCell ⟨q, 3, none⟩ (.int .i64 v)).setCell ⟨q, 4, none⟩ (.int .i64 f)).setCell ⟨q, 5, none⟩ (.int .i64 bb)).setCell ⟨q, 1, none⟩ (.int .i64 n)) q b n ⟨x, v, f, bb⟩ := by
  have := ((((Blk.set hs 2 (.int .i64 x)).set 3 (.int .i64 v)).set 4 (.int .i64 f)).set 5 (.int .i64 bb)).set 1 (.int .i64 n)
  exact this
theorem ext_set5 {w w0 : World} {q : Nat} {F : List Nat} (hx : Ext F w0 w) (hq : q ∈ F ∨ w0.heap.size ≤ q) (n x v f bb : Value) :
    Ext F w0 (((((w.setCell ⟨q, 2, none⟩ x).setCell ⟨q, 3, none⟩ v).setCell ⟨q, 4, none⟩ f).setCell ⟨q, 5, none⟩ bb).setCell ⟨q, 1, none⟩ n) :=
  ((((hx.setCell hq _).setCell hq _).setCell hq _).setCell hq _).setCell hq _
theorem DevO.less {w0 w : World} {b : Nat} {D : Dv} {O O' : List Nat} (h : DevO w0 w b D O) (hs : ∀ q ∈ O', q ∈ O) : DevO w0 w b D O' := by
  obtain ⟨⟨F, hF, hl, ho⟩, h1, h2⟩ := h
  exact ⟨⟨F, hF, hl, fun q hq => ho q (hs q hq)⟩, h1, h2⟩
theorem Kept.less {O O' : List Nat} {w w' : World} (h : Kept O w w') (hs : ∀ q ∈ O', q ∈ O) : Kept O' w w' := fun q hq o ho => h q (hs q hq) o ho

/-- What Open hands back. -/
def OpenPost (b : Nat) (D : Dv) (O : List Nat) (w0 w : World) (e : Ending) (w' : World) : Prop :=
  if openE D = 0 then ∃ q, e = .returned (.tuple #[.pointer (some ⟨q, 0, none⟩), .int .i64 0]) ∧ StAt w' q b (osK D 2).turn (osK D 2).h ∧ DevO w0 w' b D (q :: O) ∧ Ext [] w w' ∧ w.heap.size ≤ q
  else e = .returned (.tuple #[.pointer none, .int .i64 (openE D)]) ∧ DevO w0 w' b D O ∧ Ext [] w w'
theorem openPost_ok {b : Nat} {D : Dv} {O : List Nat} {w0 w w' : World} {q : Nat} {t : Int} {h : Hd} (hd : DevO w0 w b D O) (hE : openE D = 0) (hs : StAt w' q b t h) (ht : (osK D 2).turn = t) (hh : (osK D 2).h = h) (hx : Ext [] w w') (hq : w.heap.size ≤ q) :
    OpenPost b D O w0 w (.returned (.tuple #[.pointer (some ⟨q, 0, none⟩), .int .i64 0])) w' := by
  unfold OpenPost
  rw [if_pos hE]
  exact ⟨q, rfl, by rw [ht, hh]; exact hs, hd.add hx q hq (Blk.lt hs), hx, hq⟩
theorem openPost_no {b : Nat} {D : Dv} {O : List Nat} {w0 w w' : World} {n : Int} (hd : DevO w0 w b D O) (hE : openE D = n) (hn : n ≠ 0) (hx : Ext [] w w') :
    OpenPost b D O w0 w (.returned (.tuple #[.pointer none, .int .i64 n])) w' := by
  unfold OpenPost
  rw [if_neg (by rw [hE]; exact hn), hE]
  exact ⟨rfl, hd.keep hx, hx⟩

set_option maxHeartbeats 3200000 in
theorem open_o (b : Nat) (D : Dv) (w0 w : World) (O : List Nat) (h : DevO w0 w b D O) : Calls Try.prog 44 #[.pointer (some ⟨b, 0, none⟩)] w (OpenPost b D O w0 w) := by
  have HN : Hid (∀ w' n, Ext [] w w' → openE D = n → n ≠ 0 → OpenPost b D O w0 w (.returned (.tuple #[.pointer none, .int .i64 n])) w') := fun w' n hx hE hn => openPost_no h hE hn hx
  have HY : Hid (∀ w' q, Ext [] w w' → openE D = 0 → StAt w' q b (osK D 2).turn (osK D 2).h → w.heap.size ≤ q → OpenPost b D O w0 w (.returned (.tuple #[.pointer (some ⟨q, 0, none⟩), .int .i64 0])) w') := fun w' q hx hE hs hq => openPost_ok h hE hs rfl rfl hx hq
  have HD : Hid (∀ W, Ext [] w W → ∀ k, Calls Try.prog 62 #[.pointer (some ⟨b, 0, none⟩), .int .i64 k] W (CpPost k D b O w0 W)) := fun W hx k => copy_o b D k w0 W O (h.keep hx)
  clear h
  go_enter Try.func44, Try.ntmps44
  go_wp2_with fail
  obtain ⟨q, hq⟩ : ∃ q, q = w.heap.size := ⟨_, rfl⟩
  rw [← hq]
  go_loopw [20, 5, 6] (fun i em gd wr => ∃ k : Nat, k ≤ 2 ∧ i = .int .i64 k ∧ em = .int .i64 (osK D k).empty ∧ gd = .bool (osK D k).good ∧ StAt wr q b (osK D k).turn (osK D k).h ∧ Ext [] w wr ∧ ∀ j : Nat, j < k → (cpOf j D).e = 0) (fun i _ _ _ => 2 - (intOf i).toNat)
  case atStart => exact ⟨0, by omega, rfl, rfl, rfl, by subst hq; exact Blk.new w 116 #[.pointer (some ⟨b, 0, none⟩), .int .i64 0, .int .i64 0, .int .i64 0, .int .i64 1, .int .i64 0], (Ext.refl _ _).alloc _, by omega⟩
  case round =>
    obtain ⟨k, hk, rfl, rfl, rfl, hs, hx, hp⟩ := hrel
    have hq0 : w.heap.size ≤ q := by omega
    have hqw : q < wr.heap.size := Blk.lt hs
    clear hq
    by_cases hlt : k < 2
    · have hbd := osK_bound D k
      have HS : Hid (osK D (k + 1) = opStep (cpOf k D) (osK D k)) := rfl
      have HE : Hid ((cpOf k D).e ≠ 0 → openE D = (cpOf k D).e) := fun he => openE_err k hlt hp he
      have HP : Hid (∀ j : Nat, j < k → (cpOf j D).e = 0) := hp
      clear hp
      go_wp2_with fail
      refine (HD.out _ hx k).mono ?_
      rintro e w1 ⟨rfl, -, hx1⟩
      replace hs := hs.keep hx1 (by simp)
      replace hx := hx.then0 hx1
      have hsx := hx1.size
      obtain ⟨c, hc⟩ : ∃ c, c = cpOf k D := ⟨_, rfl⟩
      obtain ⟨s, hss⟩ : ∃ s, s = osK D k := ⟨_, rfl⟩
      rw [← hc, ← hss] at HS
      rw [← hc] at HE ⊢
      rw [← hss] at hs hbd
      have HC : Hid (c = cpOf k D) := hc
      simp only [← hss]
      clear hc hss hx1 HD
      obtain ⟨⟨ct, cv, cf, cb⟩, cn, cs, ce⟩ := c
      obtain ⟨em, gd, ⟨st, sv, sf, sb⟩, sn⟩ := s
      unfold Hd.val
      simp only at hs HE HS hbd ⊢
      have s0 := hs.c 0
      have s1 := hs.c 1
      have s2 := hs.c 2
      have s3 := hs.c 3
      have s4 := hs.c 4
      have s5 := hs.c 5
      have sfz := Blk.f hs
      have slt := Blk.lt hs
      simp only [List.getElem?_cons_zero, List.getElem?_cons_succ] at s0 s1 s2 s3 s4 s5
      by_cases he : ce = 0
      · subst he
        have HP2 : Hid (∀ j : Nat, j < k + 1 → (cpOf j D).e = 0) := by
          intro j hj
          by_cases hjk : j < k
          · exact HP.out j hjk
          · obtain rfl : j = k := by omega
            rw [← HC.out]
        clear HE HP HC
        by_cases h0 : cs = 0
        · subst h0
          have HS2 : Hid (osK D (k + 1) = ⟨em + 1, gd, ⟨st, sv, sf, sb⟩, sn⟩) := by show _ = _; rw [HS.out, opStep, if_pos rfl]
          clear HS
          go_wp2
          go_roundw
          case rel => exact ⟨k + 1, by omega, by go_num, by rw [HS2.out], by rw [HS2.out], by rw [HS2.out]; exact Blk.alloc hs _, hx.alloc _, HP2.out⟩
          case measure => simp [intOf]; omega
        · by_cases h1 : cs = 1
          · subst h1
            by_cases hw : gd = false ∨ sn < cn
            · have HS2 : Hid (osK D (k + 1) = ⟨em, true, ⟨ct, cv, cf, cb⟩, cn⟩) := by show _ = _; rw [HS.out, opStep, if_neg (by simp), if_pos ⟨rfl, hw⟩]
              clear HS
              cases gd with
              | false =>
                clear hw
                go_wp2
                go_roundw
                case rel => exact ⟨k + 1, by omega, by go_num, by rw [HS2.out], by rw [HS2.out], by rw [HS2.out]; exact Blk.alloc (hs.set _ _ _ _ _) _, (ext_set5 hx (.inr hq0) _ _ _ _ _).alloc _, HP2.out⟩
                case measure => simp [intOf]; omega
              | true =>
                have hw2 : sn < cn := by simpa using hw
                clear hw
                go_wp2
                go_roundw
                case rel => exact ⟨k + 1, by omega, by go_num, by rw [HS2.out], by rw [HS2.out], by rw [HS2.out]; exact Blk.alloc (hs.set _ _ _ _ _) _, (ext_set5 hx (.inr hq0) _ _ _ _ _).alloc _, HP2.out⟩
                case measure => simp [intOf]; omega
            · have HS2 : Hid (osK D (k + 1) = ⟨em, gd, ⟨st, sv, sf, sb⟩, sn⟩) := by show _ = _; rw [HS.out, opStep, if_neg (by simp), if_neg (fun h => hw h.2)]
              obtain rfl : gd = true := by simpa using (not_or.1 hw).1
              have hw2 : cn ≤ sn := by have := (not_or.1 hw).2; omega
              clear HS hw
              go_wp2
              go_roundw
              case rel => exact ⟨k + 1, by omega, by go_num, by rw [HS2.out], by rw [HS2.out], by rw [HS2.out]; exact Blk.alloc hs _, hx.alloc _, HP2.out⟩
              case measure => simp [intOf]; omega
          · have HS2 : Hid (osK D (k + 1) = ⟨em, gd, ⟨st, sv, sf, sb⟩, sn⟩) := by show _ = _; rw [HS.out, opStep, if_neg h0, if_neg (fun h => h1 h.1)]
            clear HS
            go_wp2
            go_roundw
            case rel => exact ⟨k + 1, by omega, by go_num, by rw [HS2.out], by rw [HS2.out], by rw [HS2.out]; exact Blk.alloc hs _, hx.alloc _, HP2.out⟩
            case measure => simp [intOf]; omega
      · have HQ : Hid (∀ w', Ext [] w w' → OpenPost b D O w0 w (.returned (.tuple #[.pointer none, .int .i64 ce])) w') := fun w' hx => HN.out w' _ hx (HE.out he) he
        clear HN HY HE HP HC HS
        go_wp2
        go_ret2
        exact HQ.out _ (hx.alloc _)
    · obtain rfl : k = 2 := by omega
      have hE0 := openE_two hp
      have hbd := osK_bound D 2
      have hY := HY.out
      obtain ⟨s, hss⟩ : ∃ s, s = osK D 2 := ⟨_, rfl⟩
      rw [← hss] at hE0 hbd hs hY
      simp only [← hss]
      clear hss hp HY
      obtain ⟨em, gd, hh, sn⟩ := s
      simp only at hE0 hbd hs hY ⊢
      have HY : Hid (∀ w', Ext [] w w' → openE D = 0 → StAt w' q b sn hh → OpenPost b D O w0 w (.returned (.tuple #[.pointer (some ⟨q, 0, none⟩), .int .i64 0])) w') := fun w' hx hE hs => hY w' q hx hE hs hq0
      have HE : Hid (openE D = if gd = false ∧ (em = 0 ∨ (em = 1 ∧ (cpOf 1 D).st ≠ 0)) then 6 else 0) := hE0
      clear hY hE0
      cases gd with
      | true =>
        have hE := HE.out
        rw [if_neg (by simp)] at hE
        have HQ : Hid (openE D = 0) := hE
        clear hE HE HD HN
        go_wp2
        go_ret2
        exact HY.out _ hx HQ.out hs
      | false =>
        have hem : em = 0 ∨ em = 1 ∨ em = 2 := by omega
        rcases hem with rfl | rfl | rfl
        · have hE := HE.out
          rw [if_pos (by simp)] at hE
          have HQ : Hid (openE D = 6) := hE
          clear hE HE HD HY
          go_wp2
          go_ret2
          exact HN.out _ 6 hx HQ.out (by decide)
        · go_wp2_with fail
          refine (HD.out _ hx 1).mono ?_
          rintro e w1 ⟨rfl, -, hx1⟩
          replace hs := hs.keep hx1 (by simp)
          replace hx := hx.then0 hx1
          have hE := HE.out
          obtain ⟨c, hc⟩ : ∃ c, c = cpOf 1 D := ⟨_, rfl⟩
          rw [← hc] at hE ⊢
          clear hc HD hx1 HE
          obtain ⟨⟨ct, cv, cf, cb⟩, cn, cs, ce⟩ := c
          unfold Hd.val
          simp only at hE ⊢
          by_cases h0 : cs = 0
          · subst h0
            rw [if_neg (by simp)] at hE
            have HQ : Hid (openE D = 0) := hE
            clear hE HN
            go_wp2
            go_ret2
            exact HY.out _ (hx.alloc _) HQ.out (Blk.alloc hs _)
          · rw [if_pos (by simp [h0])] at hE
            have HQ : Hid (openE D = 6) := hE
            clear hE HY
            go_wp2
            go_ret2
            exact HN.out _ 6 (hx.alloc _) HQ.out (by decide)
        · have hE := HE.out
          rw [if_neg (by simp)] at hE
          have HQ : Hid (openE D = 0) := hE
          clear hE HE HD HN
          go_wp2
          go_ret2
          exact HY.out _ hx HQ.out hs

/-- The store's head. -/
theorem head_o (q b : Nat) (t : Int) (h : Hd) (w : World) (hs : StAt w q b t h) : Calls Try.prog 46 #[.pointer (some ⟨q, 0, none⟩)] w fun e w' => e = .returned h.val ∧ Ext [] w w' := by
  have s2 := hs.c 2
  have s3 := hs.c 3
  have s4 := hs.c 4
  have s5 := hs.c 5
  have slt := Blk.lt hs
  simp only [List.getElem?_cons_zero, List.getElem?_cons_succ] at s2 s3 s4 s5
  obtain ⟨x, v, f, bb⟩ := h
  unfold Hd.val
  simp only at s2 s3 s4 s5 ⊢
  have hxz : ∀ a c d e : Value, Ext [] w (w.alloc (.cells #[a, c, d, e] 75)) := fun a c d e => (Ext.refl _ _).alloc _
  go_enter Try.func46, Try.ntmps46
  go_wp2
  refine bodyPost_ret (v := .agg #[.int .i64 x, .int .i64 v, .int .i64 f, .int .i64 bb]) ?_ (by rfl) ⟨rfl, ?_⟩
  · simp [results, Try.results46, go_sem]
  · exact hxz _ _ _ _
theorem head_nil (w : World) : Calls Try.prog 46 #[.pointer none] w fun e w' => e = .returned (.agg #[.int .i64 0, .int .i64 0, .int .i64 0, .int .i64 0]) ∧ Ext [] w w' := by
  have hxz : ∀ a c d e : Value, Ext [] w (w.alloc (.cells #[a, c, d, e] 75)) := fun a c d e => (Ext.refl _ _).alloc _
  go_enter Try.func46, Try.ntmps46
  go_wp2
  refine bodyPost_ret (v := .agg #[.int .i64 0, .int .i64 0, .int .i64 0, .int .i64 0]) ?_ (by rfl) ⟨rfl, ?_⟩
  · simp [results, Try.results46, go_sem]
  · exact hxz _ _ _ _
end Go.Proofs.Ytpnfgkgloioddaa
