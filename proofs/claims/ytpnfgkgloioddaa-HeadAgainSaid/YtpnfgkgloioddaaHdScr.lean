/- (*head.Store).Scrub. -/
import Derived.Test.YtpnfgkgloioddaaHdPut
namespace Go.Proofs.Ytpnfgkgloioddaa
open Go.RowKit
set_option linter.unusedVariables false

def scBad (t : Int) (h : Hd) (c : Cp) : Prop := 0 < t ∧ (c.st ≠ 1 ∨ c.h ≠ h ∨ c.turn ≠ t)
instance (t : Int) (h : Hd) (c : Cp) : Decidable (scBad t h c) := inferInstanceAs (Decidable (_ ∧ _))
def scPut (t : Int) (h : Hd) (D : Dv) : Prop := (cpOf 0 D).e = 0 ∧ (scBad t h (cpOf 0 D) ∨ ((cpOf 1 D).e = 0 ∧ scBad t h (cpOf 1 D)))
instance (t : Int) (h : Hd) (D : Dv) : Decidable (scPut t h D) := inferInstanceAs (Decidable (_ ∧ _))
def scE (D : Dv) : Int := if (cpOf 0 D).e ≠ 0 then (cpOf 0 D).e else (cpOf 1 D).e
theorem sc_err {t : Int} {h : Hd} {D : Dv} (k : Nat) (hk : k < 2) (hp : ∀ j : Nat, j < k → (cpOf j D).e = 0 ∧ ¬ scBad t h (cpOf j D)) (he : (cpOf k D).e ≠ 0) : ¬ scPut t h D ∧ scE D = (cpOf k D).e := by
  match k, hk with
  | 0, _ => exact ⟨fun hs => he hs.1, if_pos he⟩
  | 1, _ =>
    have h0 : (cpOf 0 D).e = 0 ∧ ¬ scBad t h (cpOf 0 D) := hp 0 (by omega)
    have he1 : (cpOf 1 D).e ≠ 0 := he
    exact ⟨fun hs => hs.2.elim h0.2 (fun h => he1 h.1), if_neg (not_not_intro h0.1)⟩
theorem sc_bad {t : Int} {h : Hd} {D : Dv} (k : Nat) (hk : k < 2) (hp : ∀ j : Nat, j < k → (cpOf j D).e = 0 ∧ ¬ scBad t h (cpOf j D)) (he : (cpOf k D).e = 0) (hb : scBad t h (cpOf k D)) : scPut t h D := by
  match k, hk with
  | 0, _ => exact ⟨he, .inl hb⟩
  | 1, _ => exact ⟨(hp 0 (by omega)).1, .inr ⟨he, hb⟩⟩
theorem sc_end {t : Int} {h : Hd} {D : Dv} (hp : ∀ j : Nat, j < 2 → (cpOf j D).e = 0 ∧ ¬ scBad t h (cpOf j D)) : ¬ scPut t h D ∧ scE D = 0 := by
  have h0 : (cpOf 0 D).e = 0 ∧ ¬ scBad t h (cpOf 0 D) := hp 0 (by omega)
  have h1 : (cpOf 1 D).e = 0 ∧ ¬ scBad t h (cpOf 1 D) := hp 1 (by omega)
  refine ⟨fun hs => hs.2.elim h0.2 (fun h => h1.2 h.2), ?_⟩
  unfold scE; rw [if_neg (not_not_intro h0.1)]; exact h1.1
def ScPost (q b : Nat) (t : Int) (h : Hd) (D : Dv) (O O' : List Nat) (w0 w : World) (e : Ending) (w' : World) : Prop :=
  if scPut t h D then HPutPost q b t h h D O O' w0 w e w' else e = .returned (.int .i64 (scE D)) ∧ DevO w0 w' b D O ∧ StAt w' q b t h ∧ Ext [] w w'
theorem scPost_put {q b : Nat} {t : Int} {h : Hd} {D : Dv} {O O' : List Nat} {w0 w w1 : World} {e : Ending} {w' : World} (hs : scPut t h D) (hx : Ext [] w w1) (hp : HPutPost q b t h h D O O' w0 w1 e w') : ScPost q b t h D O O' w0 w e w' := by
  unfold ScPost; rw [if_pos hs]
  exact ⟨hp.1, hp.2.1, hp.2.2.1, (Kept.of hx).trans hp.2.2.2⟩
theorem scPost_no {q b : Nat} {t : Int} {h : Hd} {D : Dv} {O O' : List Nat} {w0 w w' : World} {n : Int} (hs : ¬ scPut t h D) (hn : scE D = n) (hd : DevO w0 w b D O) (hx : Ext [] w w') (hst : StAt w' q b t h) : ScPost q b t h D O O' w0 w (.returned (.int .i64 n)) w' := by
  unfold ScPost; rw [if_neg hs, hn]
  exact ⟨rfl, hd.keep hx, hst, hx⟩

set_option maxHeartbeats 3200000 in
theorem scrub_o (q b : Nat) (t : Int) (h : Hd) (D : Dv) (O O' : List Nat) (w0 w : World) (hd : DevO w0 w b D O) (hq : q ∈ O) (hq0 : w0.heap.size ≤ q) (hs : StAt w q b t h) (ht : 0 ≤ t) (ht2 : t ≤ 281474976710655)
    (hO : ∀ x ∈ O', x ∈ O ∧ x ≠ q) (hlen : D.since.length ≤ 900000) :
    Calls Try.prog 47 #[.pointer (some ⟨q, 0, none⟩)] w (ScPost q b t h D O O' w0 w) := by
  have HE : Hid (∀ k : Nat, k < 2 → (∀ j : Nat, j < k → (cpOf j D).e = 0 ∧ ¬ scBad t h (cpOf j D)) → (cpOf k D).e ≠ 0 → ∀ w' n, (cpOf k D).e = n → Ext [] w w' → StAt w' q b t h → ScPost q b t h D O O' w0 w (.returned (.int .i64 n)) w') := by
    intro k hk hp he w' n hn hx hs
    obtain ⟨e1, e2⟩ := sc_err k hk hp he
    exact scPost_no e1 (e2.trans hn) hd hx hs
  have HB : Hid (∀ k : Nat, k < 2 → (∀ j : Nat, j < k → (cpOf j D).e = 0 ∧ ¬ scBad t h (cpOf j D)) → (cpOf k D).e = 0 → scBad t h (cpOf k D) → ∀ W, Ext [] w W → StAt W q b t h →
      Calls Try.prog 45 #[.pointer (some ⟨q, 0, none⟩), h.val] W fun e w' => ∃ n, e = .returned (.int .i64 n) ∧ ScPost q b t h D O O' w0 w e w') := by
    intro k hk hp he hb W hx hs
    exact (hput_o q b t h h D O O' w0 W (hd.keep hx) hq hq0 hs ht ht2 hO hlen).mono fun e w' h => ⟨_, h.1, scPost_put (sc_bad k hk hp he hb) hx h⟩
  have HY : Hid ((∀ j : Nat, j < 2 → (cpOf j D).e = 0 ∧ ¬ scBad t h (cpOf j D)) → ∀ w', Ext [] w w' → StAt w' q b t h → ScPost q b t h D O O' w0 w (.returned (.int .i64 0)) w') := by
    intro hp w' hx hs
    obtain ⟨e1, e2⟩ := sc_end hp
    exact scPost_no e1 e2 hd hx hs
  have HD : Hid (∀ W, Ext [] w W → ∀ k, Calls Try.prog 62 #[.pointer (some ⟨b, 0, none⟩), .int .i64 k] W (CpPost k D b O w0 W)) := fun W hx k => copy_o b D k w0 W O (hd.keep hx)
  clear hd hlen hO
  go_enter Try.func47, Try.ntmps47
  go_wp2_with fail
  go_loopw [10] (fun u wr => ∃ k : Nat, k ≤ 2 ∧ u = .int .i64 k ∧ StAt wr q b t h ∧ Ext [] w wr ∧ ∀ j : Nat, j < k → (cpOf j D).e = 0 ∧ ¬ scBad t h (cpOf j D)) (fun u _ => 2 - (intOf u).toNat)
  case atStart => exact ⟨0, by omega, rfl, hs, Ext.refl _ _, by omega⟩
  case round =>
    clear hs
    obtain ⟨k, hk, rfl, hs, hx, hp⟩ := hrel
    by_cases hlt : k < 2
    · have HE2 := HE.out k hlt hp
      have HB2 := HB.out k hlt hp
      have HP : Hid (∀ j : Nat, j < k → (cpOf j D).e = 0 ∧ ¬ scBad t h (cpOf j D)) := hp
      have s0 := hs.c 0
      simp only [List.getElem?_cons_zero] at s0
      have slt := Blk.lt hs
      clear hp HE HB HY
      go_wp2_with fail
      refine (HD.out _ hx k).mono ?_
      rintro e w1 ⟨rfl, -, hx1⟩
      replace hs := hs.keep hx1 (by simp)
      replace hx := hx.then0 hx1
      clear HD s0 slt hx1
      obtain ⟨c, hc⟩ : ∃ c, c = cpOf k D := ⟨_, rfl⟩
      have HC : Hid (c = cpOf k D) := hc
      rw [← hc] at HE2 HB2 ⊢
      clear hc
      obtain ⟨⟨ct, cv, cf, cb⟩, cn, cs, ce⟩ := c
      obtain ⟨x, v, fi, ba⟩ := h
      unfold Hd.val at HB2
      unfold Hd.val
      simp only at HE2 HB2 ⊢
      by_cases he : ce = 0
      · subst he
        have HB3 : Hid (scBad t ⟨x, v, fi, ba⟩ ⟨⟨ct, cv, cf, cb⟩, cn, cs, 0⟩ → ∀ W, Ext [] w1 W → Calls Try.prog 45 #[.pointer (some ⟨q, 0, none⟩), .agg #[.int .i64 x, .int .i64 v, .int .i64 fi, .int .i64 ba]] W fun e w' => ∃ n, e = .returned (.int .i64 n) ∧ ScPost q b t ⟨x, v, fi, ba⟩ D O O' w0 w e w') :=
          fun hb W hW => HB2 rfl hb W (hx.then0 hW) (hs.keep hW (by simp))
        have HP2 : Hid (¬ scBad t ⟨x, v, fi, ba⟩ ⟨⟨ct, cv, cf, cb⟩, cn, cs, 0⟩ → ∀ j : Nat, j < k + 1 → (cpOf j D).e = 0 ∧ ¬ scBad t ⟨x, v, fi, ba⟩ (cpOf j D)) := by
          intro hb j hj
          by_cases hjk : j < k
          · exact HP.out j hjk
          · obtain rfl : j = k := by omega
            rw [← HC.out]; exact ⟨rfl, hb⟩
        have s0 := hs.c 0
        have s1 := hs.c 1
        have s2 := hs.c 2
        have s3 := hs.c 3
        have s4 := hs.c 4
        have s5 := hs.c 5
        have slt := Blk.lt hs
        simp only [List.getElem?_cons_zero, List.getElem?_cons_succ] at s0 s1 s2 s3 s4 s5
        clear HE2 HB2 HP HC
        have hcs : (¬ scBad t ⟨x, v, fi, ba⟩ ⟨⟨ct, cv, cf, cb⟩, cn, cs, 0⟩ ∧ (t = 0 ∨ (0 < t ∧ cs = 1 ∧ ct = x ∧ cv = v ∧ cf = fi ∧ cb = ba ∧ cn = t))) ∨
            (scBad t ⟨x, v, fi, ba⟩ ⟨⟨ct, cv, cf, cb⟩, cn, cs, 0⟩ ∧ 0 < t ∧ (¬ cs = 1 ∨ (cs = 1 ∧ ¬ ct = x) ∨ (cs = 1 ∧ ct = x ∧ ¬ cv = v) ∨ (cs = 1 ∧ ct = x ∧ cv = v ∧ ¬ cf = fi) ∨ (cs = 1 ∧ ct = x ∧ cv = v ∧ cf = fi ∧ ¬ cb = ba) ∨ (cs = 1 ∧ ct = x ∧ cv = v ∧ cf = fi ∧ cb = ba ∧ ¬ cn = t))) := by
          unfold scBad
          simp only [Hd.mk.injEq, ne_eq]
          omega
        go_wp2_with fail
        obtain ⟨W, hWW⟩ : ∃ W, W = w1.alloc (.cells #[.int .i64 ct, .int .i64 cv, .int .i64 cf, .int .i64 cb] 75) := ⟨_, rfl⟩
        have hxW : Ext [] w1 W := by rw [hWW]; exact (Ext.refl _ _).alloc _
        obtain ⟨g, hg⟩ : ∃ g, g = w1.heap.size := ⟨_, rfl⟩
        have hG : Blk W g 75 [.int .i64 ct, .int .i64 cv, .int .i64 cf, .int .i64 cb] := by rw [hWW]; exact Blk.newg hg.symm
        rw [← hWW, ← hg]
        replace hx := hx.then0 hxW
        replace hs := hs.keep hxW (by simp)
        clear hWW hg s0 s1 s2 s3 s4 s5 slt
        have HB4 : Hid (scBad t ⟨x, v, fi, ba⟩ ⟨⟨ct, cv, cf, cb⟩, cn, cs, 0⟩ → ∀ W', Ext [] W W' → Calls Try.prog 45 #[.pointer (some ⟨q, 0, none⟩), .agg #[.int .i64 x, .int .i64 v, .int .i64 fi, .int .i64 ba]] W' fun e w' => ∃ n, e = .returned (.int .i64 n) ∧ ScPost q b t ⟨x, v, fi, ba⟩ D O O' w0 w e w') := fun hb W' hW' => HB3.out hb W' (hxW.then0 hW')
        clear HB3 hxW
        have s0 := hs.c 0
        have s1 := hs.c 1
        have s2 := hs.c 2
        have s3 := hs.c 3
        have s4 := hs.c 4
        have s5 := hs.c 5
        have slt := Blk.lt hs
        have g0 := hG.c 0
        have g1 := hG.c 1
        have g2 := hG.c 2
        have g3 := hG.c 3
        have glt := hG.lt
        simp only [List.getElem?_cons_zero, List.getElem?_cons_succ] at s0 s1 s2 s3 s4 s5 g0 g1 g2 g3
        clear hG
        rcases hcs with ⟨hb, rfl | ⟨h0, rfl, rfl, rfl, rfl, rfl, rfl⟩⟩ | ⟨hb, h0, hcs⟩
        · have HP3 := HP2.out hb
          have HP4 : Hid (∀ j : Nat, j < k + 1 → (cpOf j D).e = 0 ∧ ¬ scBad 0 ⟨x, v, fi, ba⟩ (cpOf j D)) := HP3
          clear HP2 HP3 HB4 hb
          go_quiet (fail)
          go_wp2
          go_roundw
          case rel => exact ⟨k + 1, by omega, by go_num, hs.keep ((Ext.refl [] _).drewN _) (by simp), hx.drewN _, HP4.out⟩
          case measure => simp [intOf]; omega
        · have HP3 := HP2.out hb
          have HP4 : Hid (∀ j : Nat, j < k + 1 → (cpOf j D).e = 0 ∧ ¬ scBad cn ⟨ct, cv, cf, cb⟩ (cpOf j D)) := HP3
          clear HP2 HP3 HB4 hb
          go_quiet (fail)
          go_wp2
          go_roundw
          case rel => exact ⟨k + 1, by omega, by go_num, hs.keep ((Ext.refl [] _).drewN _) (by simp), hx.drewN _, HP4.out⟩
          case measure => simp [intOf]; omega
        · have HB5 := HB4.out hb
          clear HP2 HB4 hb hs hx
          have hw0 : decide (0 < t) = true := by simpa using h0
          rcases hcs with h1 | ⟨rfl, h1⟩ | ⟨rfl, rfl, h1⟩ | ⟨rfl, rfl, rfl, h1⟩ | ⟨rfl, rfl, rfl, rfl, h1⟩ | ⟨rfl, rfl, rfl, rfl, rfl, h1⟩
          all_goals (
            go_quiet (fail)
            go_wp2_with fail
            refine (HB5 _ ((Ext.refl [] _).drewN _)).mono ?_
            rintro e w' ⟨n, rfl, hp⟩
            clear HB5 s0 s1 s2 s3 s4 s5 g0 g1 g2 g3
            go_wp2
            go_ret
            exact hp)
      · have HQ : Hid (∀ w', Ext [] w w' → StAt w' q b t ⟨x, v, fi, ba⟩ → ScPost q b t ⟨x, v, fi, ba⟩ D O O' w0 w (.returned (.int .i64 ce)) w') := fun w' => HE2 he w' ce rfl
        clear HE2 HB2 HP HC
        go_wp2
        go_ret
        exact HQ.out _ (hx.alloc _) (Blk.alloc hs _)
    · obtain rfl : k = 2 := by omega
      have HQ : Hid (∀ w', Ext [] w w' → StAt w' q b t h → ScPost q b t h D O O' w0 w (.returned (.int .i64 0)) w') := HY.out hp
      clear HE HB HY HD hp
      go_wp2
      go_ret
      exact HQ.out _ hx hs
theorem scrub_nil (w : World) : Calls Try.prog 47 #[.pointer none] w fun e w' => e = .returned (.int .i64 1) ∧ w = w' := by
  go_enter Try.func47, Try.ntmps47
  go_wp2
  go_ret
  exact ⟨rfl, rfl⟩
end Go.Proofs.Ytpnfgkgloioddaa
