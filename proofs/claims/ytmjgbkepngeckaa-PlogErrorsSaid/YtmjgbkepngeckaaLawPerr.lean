/- PlogErrors: the walk. -/
import Derived.Test.YtmjgbkepngeckaaPq5
import Derived.Test.YtmjgbkepngeckaaBits
namespace Go.Proofs.Ytmjgbkepngeckaa
open Go.RowKit
set_option linter.unusedVariables false
set_option linter.unusedSimpArgs false
attribute [local go_sem] i64_and7

set_option maxRecDepth 100000 in
set_option maxHeartbeats 12800000 in
theorem perrors_any {w : World} (n : Int) (x : Ent) (hx : x.i64) : Calls Try.prog 10 #[.int .i64 n, x.val] w fun e w' => e = .returned (.bool true) ∧ Ext [] w w' := by
  have hxi := hx.1
  have hxt := hx.2.1
  have hxd : (x.data.length : Int) ≤ 9223372036854775807 := by have := hx.2.2; unfold maxLen at this; omega
  have HWf := Hid.of hx
  have hx0 := hx
  have hN0 : 0 ≤ n % 8 := Int.emod_nonneg _ (by decide)
  have hN1 : n % 8 < 8 := Int.emod_lt_of_pos _ (by decide)
  obtain ⟨N, hN⟩ : ∃ N : Nat, n % 8 = (N : Int) := ⟨(n % 8).toNat, by omega⟩
  have hNl : N < 8 := by omega
  clear hx hN0 hN1 hx0
  have HX0 : Hid (∃ y : Ent, y = x) := Hid.of ⟨x, rfl⟩
  obtain ⟨xi, xt, xd⟩ := x
  simp only [Ent.val] at hxi hxt hxd ⊢
  obtain ⟨hxi1, hxi2⟩ := hxi
  obtain ⟨hxt1, hxt2⟩ := hxt
  go_enter Try.func10, Try.ntmps10
  obtain ⟨E, hE⟩ : ∃ E, E = w.heap.size := ⟨_, rfl⟩
  obtain ⟨W, hW⟩ : ∃ W, W = w.alloc (.cells #[.int .i64 xi, .int .i64 xt, .string ⟨xd.toArray⟩] 37) := ⟨_, rfl⟩
  have HEW : Hid (Blk W E 37 [.int .i64 xi, .int .i64 xt, str xd]) := Hid.of (by rw [hE, hW]; exact Blk.new w 37 #[.int .i64 xi, .int .i64 xt, str xd])
  have HXW : Hid (Ext [] w W) := Hid.of (by rw [hW]; exact (Ext.refl _ _).alloc _)
  have HN : Hid (w.heap.size ≤ E) := Hid.of (by omega)
  go_upto_region 1 with fail
  rw [← hE, ← hW]
  clear hE hW
  go_upto_region 3 with (first
    | (go_at_call 11; (with_reducible refine (head6_any _).mono ?_); rintro e w1 ⟨rfl, hx1⟩; have HE1 := Hid.of (Blk.keep HEW.out hx1 (by simp)); have HX1 := Hid.of (HXW.out.then0 hx1); clear hx1))
  have e2 : w1.cell? ⟨E, 2, none⟩ = some (.string ⟨xd.toArray⟩) := Blk.c HE1.out 2
  by_cases h6 : 600 < (xd.length : Int)
  · go_wp2
    go_ret
    exact ⟨rfl, HX1.out⟩
  · have cn := neww w w1 HX1.out [E] (by simpa using Blk.lt HE1.out)
    go_upto_region 8 with (first
      | (go_at_call 13; (with_reducible refine cn.mono ?_); intro e w2 hq; obtain ⟨wq, b, q, rfl, hst, hk⟩ := NewW.st hq; have HS2 := Hid.of hst; have HE2 := Hid.of (hk.blk HE1.out (by simp)); clear hq hst hk cn))
    clear e2
    go_upto_region 10 with fail
    go_loopw [6] (fun u6 wr => ∃ (k : Nat) (all : List Ent), u6 = .int .i64 ((k : Int) + 1) ∧ k ≤ N ∧ all.length = k ∧ Hid (St w wr wq b q 1 (.slice none 0 0) (.slice none 0 0) all [E]) ∧ Hid (Blk wr E 37 [.int .i64 xi, .int .i64 xt, str xd])) (fun u6 _ => N + 1 - (intOf u6).toNat)
    case atStart => exact ⟨0, [], rfl, by omega, rfl, HS2, HE2⟩
    case round =>
      obtain ⟨k, all, rfl, hk, hal, hS, hE⟩ := hrel
      have cq : wr.cell? ⟨wq, 1, none⟩ = some (.pointer (some ⟨q, 0, none⟩)) := Blk.c hS.out.blk 1
      by_cases hkN : k < N
      · have he0 : appE8 1 all [⟨(k : Int) + 1, 1, []⟩] = 0 := appE8_next (by omega) (by show (k : Int) + 1 = 1 + all.length; omega) (by unfold Ent.bad; simp)
        have hea : appA8 1 all [⟨(k : Int) + 1, 1, []⟩] = all ++ [⟨(k : Int) + 1, 1, []⟩] := if_pos he0
        have ca := hS.out.append1 ⟨(k : Int) + 1, 1, []⟩ (ent_i64 (by omega) (by omega) (by omega) (by omega) (by simp)) (wr.alloc (.cells #[.int .i64 ((k : Int) + 1), .int .i64 1, .string ⟨#[]⟩] 37)) wr.heap.size ((Ext.refl _ _).alloc _) (Nat.le_refl _) (Blk.new wr 37 #[.int .i64 ((k : Int) + 1), .int .i64 1, .string ⟨#[]⟩])
        rw [he0, hea] at ca
        clear he0 hea
        go_wp2_with (first
          | (go_at_call 26; (with_reducible refine ca.mono ?_); rintro e w3 ⟨rfl, h3, hk3⟩; have H3 := Hid.of h3; have HE3 := Hid.of (hk3.blk hE.out (by simp)); clear h3 hk3 ca))
        exact ⟨⟨k + 1, _, by congr 1, by omega, by rw [List.length_append, hal]; rfl, H3, HE3⟩, by simp [intOf]; omega⟩
      · obtain rfl : k = N := by omega
        have e1 : wr.cell? ⟨E, 1, none⟩ = some (.int .i64 xt) := Blk.c hE.out 1
        have e2 : wr.cell? ⟨E, 2, none⟩ = some (.string ⟨xd.toArray⟩) := Blk.c hE.out 2
        have e0 : wr.cell? ⟨E, 0, none⟩ = some (.int .i64 xi) := Blk.c hE.out 0
        obtain ⟨G, hG⟩ : ∃ G, G = decide (¬ (⟨xi, xt, xd⟩ : Ent).bad) := ⟨_, rfl⟩
        have HG := Hid.of hG
        clear hG
        go_upto_region 14 with fail
        go_cut [7] (fun v wx => v = .bool G ∧ wx = wr)
        case first => as_aux_lemma =>
          by_cases b1 : xt < 1
          · obtain rfl : G = false := by rw [HG.out, decide_eq_false_iff_not]; exact fun h => h (.inl b1)
            clear HG
            go_wp2
            go_meet
            exact ⟨rfl, rfl⟩
          · by_cases b2 : 1099511627776 < xt
            · obtain rfl : G = false := by rw [HG.out, decide_eq_false_iff_not]; exact fun h => h (.inr (.inl b2))
              have b1' : 1 ≤ xt := by omega
              have b2' : ¬ xt ≤ 1099511627776 := by omega
              clear HG
              go_wp2
              go_meet
              exact ⟨rfl, rfl⟩
            · by_cases b3 : 488 < xd.length
              · obtain rfl : G = false := by rw [HG.out, decide_eq_false_iff_not]; exact fun h => h (.inr (.inr b3))
                have b1' : 1 ≤ xt := by omega
                have b2' : xt ≤ 1099511627776 := by omega
                have b3' : ¬ (xd.length : Int) ≤ 488 := by omega
                clear HG
                go_wp2
                go_meet
                exact ⟨rfl, rfl⟩
              · obtain rfl : G = true := by rw [HG.out, decide_eq_true_iff]; rintro (h | h | h) <;> simp only at h <;> omega
                have b1' : 1 ≤ xt := by omega
                have b2' : xt ≤ 1099511627776 := by omega
                have b3' : (xd.length : Int) ≤ 488 := by omega
                clear HG
                go_wp2
                go_meet
                exact ⟨rfl, rfl⟩
        case rest => as_aux_lemma =>
          obtain ⟨rfl, hwc⟩ := hcut
          subst hwc
          have ca := fun w' z => hS.out.append1 ⟨xi, xt, xd⟩ HWf.out w' z
          have HA : Hid (appE8 1 all [⟨xi, xt, xd⟩] = if xi ≠ (k : Int) + 1 then 8 else if G = true then 0 else 1) := Hid.of (by
            by_cases h1 : xi = (k : Int) + 1
            · rw [if_neg (fun h => h h1)]
              by_cases h2 : (⟨xi, xt, xd⟩ : Ent).bad
              · rw [appE8_bad (by omega) (by show xi = 1 + all.length; omega) h2, HG.out, decide_eq_false (fun h => h h2)]
                rfl
              · rw [appE8_next (by omega) (by show xi = 1 + all.length; omega) h2, HG.out, decide_eq_true h2]
                rfl
            · rw [if_pos h1, appE8_gap (by omega) (by show xi ≠ 1 + all.length; omega)])
          have HAl : Hid ((appA8 1 all [⟨xi, xt, xd⟩]).length ≤ 8) := Hid.of (by
            unfold appA8
            split
            · rw [List.length_append]; simp; omega
            · omega)
          obtain ⟨A1, hA1⟩ : ∃ A, A = appE8 1 all [⟨xi, xt, xd⟩] := ⟨_, rfl⟩
          obtain ⟨A2, hA2⟩ : ∃ A, A = appA8 1 all [⟨xi, xt, xd⟩] := ⟨_, rfl⟩
          rw [← hA1] at ca HA
          rw [← hA2] at ca HAl
          clear hA1 hA2 HWf HX0
          have cqa : (wc.alloc (.cells #[.int .i64 xi, .int .i64 xt, .string ⟨xd.toArray⟩] 37)).cell? ⟨wq, 1, none⟩ = some (.pointer (some ⟨q, 0, none⟩)) := ((Ext.refl [] wc).alloc _).cell (by simp) cq
          go_wp2_with fail
          go_cut [8] (fun v wx => v = .int .i64 A1 ∧ Hid (St w wx wq b q 1 (.slice none 0 0) (.slice none 0 0) A2 [E]) ∧ Hid (Blk wx E 37 [.int .i64 xi, .int .i64 xt, str xd]))
          case first => as_aux_lemma =>
            go_region_with ((try go_at_call 26); (with_reducible refine (ca _ wc.heap.size ?hx (Nat.le_refl _) ?hb).mono ?_); (case hx => first | exact ((Ext.refl [] wc).drew).alloc _ | exact ((Ext.refl [] wc).alloc _).drew); (case hb => first | exact Blk.new wc.drew 37 #[.int .i64 xi, .int .i64 xt, .string ⟨xd.toArray⟩] | exact Blk.keep (Blk.new wc 37 #[.int .i64 xi, .int .i64 xt, .string ⟨xd.toArray⟩]) ((Ext.refl [] _).drew) (by simp)); rintro e w5 ⟨rfl, h5, hk5⟩)
            all_goals (
              have HS5 := Hid.of h5
              have HE5 := Hid.of (hk5.blk hE.out (by simp))
              clear h5 hk5 ca e0 e1 e2 cq cqa hS hE HA
              go_wp2
              go_meet
              exact ⟨rfl, HS5, HE5⟩)
          case rest => as_aux_lemma =>
            obtain ⟨rfl, HS5, HE5⟩ := hcut
            clear ca e0 e1 e2 cq cqa hS hE
            have e0 : wc.cell? ⟨E, 0, none⟩ = some (.int .i64 xi) := Blk.c HE5.out 0
            go_upto_region 16 with fail
            go_cut [88] (fun v wx => v = .bool false ∧ wx = wc)
            case first => as_aux_lemma =>
              by_cases h1 : xi = (k : Int) + 1
              · subst h1
                cases G with
                | true =>
                  obtain rfl : A1 = 0 := by rw [HA.out]; simp
                  clear HA
                  go_wp2
                  go_meet
                  exact ⟨rfl, rfl⟩
                | false =>
                  obtain rfl : A1 = 1 := by rw [HA.out]; simp
                  clear HA
                  go_wp2
                  go_meet
                  exact ⟨rfl, rfl⟩
              · obtain rfl : A1 = 8 := by rw [HA.out]; simp [h1]
                have h1b : (xi == (k : Int) + 1) = false := by simp [h1]
                clear HA
                go_wp2
                go_meet
                exact ⟨rfl, rfl⟩
            case rest => as_aux_lemma =>
              obtain ⟨rfl, hwc⟩ := hcut
              subst hwc
              have hlen := HAl.out
              obtain ⟨M, hM⟩ : ∃ M : Nat, M = A2.length := ⟨_, rfl⟩
              have hM8 : M ≤ 8 := by omega
              have HMM := Hid.of hM
              have op1 := fun w' (hx : Ext [] wc w') => (HS5.out.keep hx).open_err (-1) 1 1 (by omega) (by omega) (by omega)
              have op2 := fun w' (hx : Ext [] wc w') => (HS5.out.keep hx).open_err 0 0 1 (by omega) (by omega) (by omega)
              have op3 := fun w' (hx : Ext [] wc w') => (HS5.out.keep hx).open_err 0 1 0 (by omega) (by omega) (by omega)
              have op4 := fun w' (hx : Ext [] wc w') => (HS5.out.keep hx).open_err 4 8 1 (by omega) (by omega) (by omega)
              have cl := fun w' (hx : Ext [] wc w') => (HS5.out.keep hx).last_c
              rw [show (1 : Int) + (A2.length : Int) - 1 = (M : Int) by omega] at cl
              have ct1 := fun w' (hx : Ext [] wc w') => (HS5.out.keep hx).cut_err 0 (by omega)
              have ct2 := fun w' (hx : Ext [] wc w') => (HS5.out.keep hx).cut_err ((M : Int) + 2) (by omega)
              have ct3 := fun w' (hx : Ext [] wc w') => (HS5.out.keep hx).cut_end
              rw [show (1 : Int) + (A2.length : Int) = (M : Int) + 1 by omega] at ct3
              have dr1 := fun w' (hx : Ext [] wc w') => (HS5.out.keep hx).drop_err ((M : Int) + 2) (by omega)
              have dr2 := fun w' (hx : Ext [] wc w') => (HS5.out.keep hx).drop_err 0 (by omega)
              have md1 := fun w' (hx : Ext [] wc w') => (HS5.out.keep hx).mend_arg ⟨(M : Int) + 1, 1, []⟩ (by show (1 : Int) + (A2.length : Int) ≤ (M : Int) + 1; omega) (by show (M : Int) + 1 ≤ 9223372036854775807; omega)
              have mnil := fun w' => mend_nil ⟨xi, xt, xd⟩ w'
              have fnil : ∀ w', Calls Try.prog 29 #[.pointer none] w' fun e w'' => e = .returned (.int .i64 1) ∧ Ext [] w' w'' := fun w' => (first_nil w').mono (by rintro e w'' ⟨rfl, rfl⟩; exact ⟨rfl, Ext.refl _ _⟩)
              have lnil : ∀ w', Calls Try.prog 21 #[.pointer none] w' fun e w'' => e = .returned (.int .i64 0) ∧ Ext [] w' w'' := fun w' => (last_nil w').mono (by rintro e w'' ⟨rfl, rfl⟩; exact ⟨rfl, Ext.refl _ _⟩)
              have rnil : ∀ w', Calls Try.prog 32 #[.pointer none] w' fun e w'' => e = .returned (.int .i64 0) ∧ Ext [] w' w'' := fun w' => (room_nil w').mono (fun e w'' h => QRet.ext h)
              have tnil : ∀ w', Calls Try.prog 33 #[.pointer none, .int .i64 1] w' fun e w'' => e = .returned (.int .i64 0) ∧ Ext [] w' w'' := fun w' => (term_nil w' 1).mono (fun e w'' h => QRet.ext h)
              have hnil : ∀ w', Calls Try.prog 19 #[.pointer none] w' fun e w'' => e = .returned (.int .i64 0) ∧ Ext [] w' w'' := fun w' => (hurt_nil w').mono (fun e w'' h => QRet.ext h)
              have rdnil : ∀ w', Calls Try.prog 18 #[.pointer none, .int .i64 1] w' fun e w'' => e = .returned (.tuple #[.agg #[.int .i64 0, .int .i64 0, .string ⟨#[]⟩], .int .i64 0]) ∧ Ext [] w' w'' := fun w' => read_nil w' 1
              simp only [Ent.val] at md1 mnil
              have HX : Hid (Ext [] wc wc) := Hid.of (Ext.refl _ _)
              have hbW := HS5.out.blk
              have cq : wc.cell? ⟨wq, 1, none⟩ = some (.pointer (some ⟨q, 0, none⟩)) := Blk.c hbW 1
              have cd : wc.cell? ⟨wq, 0, none⟩ = some (.pointer (some ⟨b, 0, none⟩)) := Blk.c hbW 0
              have e1 : wc.cell? ⟨E, 1, none⟩ = some (.int .i64 xt) := Blk.c HE5.out 1
              have e2 : wc.cell? ⟨E, 2, none⟩ = some (.string ⟨xd.toArray⟩) := Blk.c HE5.out 2
              clear HA hlen hM HAl hbW
              go_upto_region 22 with (first
                | (go_at_call 20; (with_reducible refine (op1 _ HX.out).mono ?_); rintro e w2 ⟨rfl, hx2⟩; have hxn := HX.out.then0 hx2; clear hx2 HX cq cd e0 e1 e2; have HX := Hid.of hxn; clear hxn; have cq : w2.cell? ⟨wq, 1, none⟩ = some (.pointer (some ⟨q, 0, none⟩)) := Blk.c (HS5.out.keep HX.out).blk 1; have cd : w2.cell? ⟨wq, 0, none⟩ = some (.pointer (some ⟨b, 0, none⟩)) := Blk.c (HS5.out.keep HX.out).blk 0; have hbE := Blk.keep HE5.out HX.out (by simp); have e0 : w2.cell? ⟨E, 0, none⟩ = some (.int .i64 xi) := Blk.c hbE 0; have e1 : w2.cell? ⟨E, 1, none⟩ = some (.int .i64 xt) := Blk.c hbE 1; have e2 : w2.cell? ⟨E, 2, none⟩ = some (.string ⟨xd.toArray⟩) := Blk.c hbE 2; clear hbE)
                | (go_at_call 20; (with_reducible refine (op2 _ HX.out).mono ?_); rintro e w2 ⟨rfl, hx2⟩; have hxn := HX.out.then0 hx2; clear hx2 HX cq cd e0 e1 e2; have HX := Hid.of hxn; clear hxn; have cq : w2.cell? ⟨wq, 1, none⟩ = some (.pointer (some ⟨q, 0, none⟩)) := Blk.c (HS5.out.keep HX.out).blk 1; have cd : w2.cell? ⟨wq, 0, none⟩ = some (.pointer (some ⟨b, 0, none⟩)) := Blk.c (HS5.out.keep HX.out).blk 0; have hbE := Blk.keep HE5.out HX.out (by simp); have e0 : w2.cell? ⟨E, 0, none⟩ = some (.int .i64 xi) := Blk.c hbE 0; have e1 : w2.cell? ⟨E, 1, none⟩ = some (.int .i64 xt) := Blk.c hbE 1; have e2 : w2.cell? ⟨E, 2, none⟩ = some (.string ⟨xd.toArray⟩) := Blk.c hbE 2; clear hbE)
                | (go_at_call 20; (with_reducible refine (op3 _ HX.out).mono ?_); rintro e w2 ⟨rfl, hx2⟩; have hxn := HX.out.then0 hx2; clear hx2 HX cq cd e0 e1 e2; have HX := Hid.of hxn; clear hxn; have cq : w2.cell? ⟨wq, 1, none⟩ = some (.pointer (some ⟨q, 0, none⟩)) := Blk.c (HS5.out.keep HX.out).blk 1; have cd : w2.cell? ⟨wq, 0, none⟩ = some (.pointer (some ⟨b, 0, none⟩)) := Blk.c (HS5.out.keep HX.out).blk 0; have hbE := Blk.keep HE5.out HX.out (by simp); have e0 : w2.cell? ⟨E, 0, none⟩ = some (.int .i64 xi) := Blk.c hbE 0; have e1 : w2.cell? ⟨E, 1, none⟩ = some (.int .i64 xt) := Blk.c hbE 1; have e2 : w2.cell? ⟨E, 2, none⟩ = some (.string ⟨xd.toArray⟩) := Blk.c hbE 2; clear hbE)
                | (go_at_call 20; (with_reducible refine (op4 _ HX.out).mono ?_); rintro e w2 ⟨rfl, hx2⟩; have hxn := HX.out.then0 hx2; clear hx2 HX cq cd e0 e1 e2; have HX := Hid.of hxn; clear hxn; have cq : w2.cell? ⟨wq, 1, none⟩ = some (.pointer (some ⟨q, 0, none⟩)) := Blk.c (HS5.out.keep HX.out).blk 1; have cd : w2.cell? ⟨wq, 0, none⟩ = some (.pointer (some ⟨b, 0, none⟩)) := Blk.c (HS5.out.keep HX.out).blk 0; have hbE := Blk.keep HE5.out HX.out (by simp); have e0 : w2.cell? ⟨E, 0, none⟩ = some (.int .i64 xi) := Blk.c hbE 0; have e1 : w2.cell? ⟨E, 1, none⟩ = some (.int .i64 xt) := Blk.c hbE 1; have e2 : w2.cell? ⟨E, 2, none⟩ = some (.string ⟨xd.toArray⟩) := Blk.c hbE 2; clear hbE))
              go_upto_region 24 with (first
                | (go_at_call 21; (with_reducible refine (cl _ HX.out).mono ?_); rintro e w2 ⟨rfl, hx2⟩; have hxn := HX.out.then0 hx2; clear hx2 HX cq cd e0 e1 e2; have HX := Hid.of hxn; clear hxn; have cq : w2.cell? ⟨wq, 1, none⟩ = some (.pointer (some ⟨q, 0, none⟩)) := Blk.c (HS5.out.keep HX.out).blk 1; have cd : w2.cell? ⟨wq, 0, none⟩ = some (.pointer (some ⟨b, 0, none⟩)) := Blk.c (HS5.out.keep HX.out).blk 0; have hbE := Blk.keep HE5.out HX.out (by simp); have e0 : w2.cell? ⟨E, 0, none⟩ = some (.int .i64 xi) := Blk.c hbE 0; have e1 : w2.cell? ⟨E, 1, none⟩ = some (.int .i64 xt) := Blk.c hbE 1; have e2 : w2.cell? ⟨E, 2, none⟩ = some (.string ⟨xd.toArray⟩) := Blk.c hbE 2; clear hbE))
              clear op1 op2 op3 op4 cl
              go_upto_region 25 with (first
                | (go_at_call 18; (with_reducible refine (rdnil _).mono ?_); rintro e w2 ⟨rfl, hx2⟩; have hxn := (HX.out.then0 hx2).alloc (.cells #[.int .i64 0, .int .i64 0, .string ⟨#[]⟩] 37); clear hx2 HX cq cd e0 e1 e2; have HX := Hid.of hxn; clear hxn; have cq : (w2.alloc (.cells #[.int .i64 0, .int .i64 0, .string ⟨#[]⟩] 37)).cell? ⟨wq, 1, none⟩ = some (.pointer (some ⟨q, 0, none⟩)) := Blk.c (HS5.out.keep HX.out).blk 1; have cd : (w2.alloc (.cells #[.int .i64 0, .int .i64 0, .string ⟨#[]⟩] 37)).cell? ⟨wq, 0, none⟩ = some (.pointer (some ⟨b, 0, none⟩)) := Blk.c (HS5.out.keep HX.out).blk 0; have hbE := Blk.keep HE5.out HX.out (by simp); have e0 : (w2.alloc (.cells #[.int .i64 0, .int .i64 0, .string ⟨#[]⟩] 37)).cell? ⟨E, 0, none⟩ = some (.int .i64 xi) := Blk.c hbE 0; have e1 : (w2.alloc (.cells #[.int .i64 0, .int .i64 0, .string ⟨#[]⟩] 37)).cell? ⟨E, 1, none⟩ = some (.int .i64 xt) := Blk.c hbE 1; have e2 : (w2.alloc (.cells #[.int .i64 0, .int .i64 0, .string ⟨#[]⟩] 37)).cell? ⟨E, 2, none⟩ = some (.string ⟨xd.toArray⟩) := Blk.c hbE 2; clear hbE))
              go_wp2_with (first
                | (go_at_call 17; (with_reducible refine (scrub_nil _).mono ?_); rintro e w2 ⟨rfl, hx2⟩; have hxn := HX.out.then0 hx2; clear hx2 HX cq cd e0 e1 e2; have HX := Hid.of hxn; clear hxn; have cq : w2.cell? ⟨wq, 1, none⟩ = some (.pointer (some ⟨q, 0, none⟩)) := Blk.c (HS5.out.keep HX.out).blk 1; have cd : w2.cell? ⟨wq, 0, none⟩ = some (.pointer (some ⟨b, 0, none⟩)) := Blk.c (HS5.out.keep HX.out).blk 0; have hbE := Blk.keep HE5.out HX.out (by simp); have e0 : w2.cell? ⟨E, 0, none⟩ = some (.int .i64 xi) := Blk.c hbE 0; have e1 : w2.cell? ⟨E, 1, none⟩ = some (.int .i64 xt) := Blk.c hbE 1; have e2 : w2.cell? ⟨E, 2, none⟩ = some (.string ⟨xd.toArray⟩) := Blk.c hbE 2; clear hbE)
                | (go_at_call 30; (with_reducible refine (ct1 _ HX.out).mono ?_); rintro e w2 ⟨rfl, hx2⟩; have hxn := HX.out.then0 hx2; clear hx2 HX cq cd e0 e1 e2; have HX := Hid.of hxn; clear hxn; have cq : w2.cell? ⟨wq, 1, none⟩ = some (.pointer (some ⟨q, 0, none⟩)) := Blk.c (HS5.out.keep HX.out).blk 1; have cd : w2.cell? ⟨wq, 0, none⟩ = some (.pointer (some ⟨b, 0, none⟩)) := Blk.c (HS5.out.keep HX.out).blk 0; have hbE := Blk.keep HE5.out HX.out (by simp); have e0 : w2.cell? ⟨E, 0, none⟩ = some (.int .i64 xi) := Blk.c hbE 0; have e1 : w2.cell? ⟨E, 1, none⟩ = some (.int .i64 xt) := Blk.c hbE 1; have e2 : w2.cell? ⟨E, 2, none⟩ = some (.string ⟨xd.toArray⟩) := Blk.c hbE 2; clear hbE)
                | (go_at_call 30; (with_reducible refine (ct2 _ HX.out).mono ?_); rintro e w2 ⟨rfl, hx2⟩; have hxn := HX.out.then0 hx2; clear hx2 HX cq cd e0 e1 e2; have HX := Hid.of hxn; clear hxn; have cq : w2.cell? ⟨wq, 1, none⟩ = some (.pointer (some ⟨q, 0, none⟩)) := Blk.c (HS5.out.keep HX.out).blk 1; have cd : w2.cell? ⟨wq, 0, none⟩ = some (.pointer (some ⟨b, 0, none⟩)) := Blk.c (HS5.out.keep HX.out).blk 0; have hbE := Blk.keep HE5.out HX.out (by simp); have e0 : w2.cell? ⟨E, 0, none⟩ = some (.int .i64 xi) := Blk.c hbE 0; have e1 : w2.cell? ⟨E, 1, none⟩ = some (.int .i64 xt) := Blk.c hbE 1; have e2 : w2.cell? ⟨E, 2, none⟩ = some (.string ⟨xd.toArray⟩) := Blk.c hbE 2; clear hbE)
                | (go_at_call 30; (with_reducible refine (ct3 _ HX.out).mono ?_); rintro e w2 ⟨rfl, hx2⟩; have hxn := HX.out.then0 hx2; clear hx2 HX cq cd e0 e1 e2; have HX := Hid.of hxn; clear hxn; have cq : w2.cell? ⟨wq, 1, none⟩ = some (.pointer (some ⟨q, 0, none⟩)) := Blk.c (HS5.out.keep HX.out).blk 1; have cd : w2.cell? ⟨wq, 0, none⟩ = some (.pointer (some ⟨b, 0, none⟩)) := Blk.c (HS5.out.keep HX.out).blk 0; have hbE := Blk.keep HE5.out HX.out (by simp); have e0 : w2.cell? ⟨E, 0, none⟩ = some (.int .i64 xi) := Blk.c hbE 0; have e1 : w2.cell? ⟨E, 1, none⟩ = some (.int .i64 xt) := Blk.c hbE 1; have e2 : w2.cell? ⟨E, 2, none⟩ = some (.string ⟨xd.toArray⟩) := Blk.c hbE 2; clear hbE)
                | (go_at_call 30; (with_reducible refine (cut_nil 1 _).mono ?_); rintro e w2 ⟨rfl, hx2⟩; have hxn := HX.out.then0 hx2; clear hx2 HX cq cd e0 e1 e2; have HX := Hid.of hxn; clear hxn; have cq : w2.cell? ⟨wq, 1, none⟩ = some (.pointer (some ⟨q, 0, none⟩)) := Blk.c (HS5.out.keep HX.out).blk 1; have cd : w2.cell? ⟨wq, 0, none⟩ = some (.pointer (some ⟨b, 0, none⟩)) := Blk.c (HS5.out.keep HX.out).blk 0; have hbE := Blk.keep HE5.out HX.out (by simp); have e0 : w2.cell? ⟨E, 0, none⟩ = some (.int .i64 xi) := Blk.c hbE 0; have e1 : w2.cell? ⟨E, 1, none⟩ = some (.int .i64 xt) := Blk.c hbE 1; have e2 : w2.cell? ⟨E, 2, none⟩ = some (.string ⟨xd.toArray⟩) := Blk.c hbE 2; clear hbE)
                | (go_at_call 27; (with_reducible refine (dr1 _ HX.out).mono ?_); rintro e w2 ⟨rfl, hx2⟩; have hxn := HX.out.then0 hx2; clear hx2 HX cq cd e0 e1 e2; have HX := Hid.of hxn; clear hxn; have cq : w2.cell? ⟨wq, 1, none⟩ = some (.pointer (some ⟨q, 0, none⟩)) := Blk.c (HS5.out.keep HX.out).blk 1; have cd : w2.cell? ⟨wq, 0, none⟩ = some (.pointer (some ⟨b, 0, none⟩)) := Blk.c (HS5.out.keep HX.out).blk 0; have hbE := Blk.keep HE5.out HX.out (by simp); have e0 : w2.cell? ⟨E, 0, none⟩ = some (.int .i64 xi) := Blk.c hbE 0; have e1 : w2.cell? ⟨E, 1, none⟩ = some (.int .i64 xt) := Blk.c hbE 1; have e2 : w2.cell? ⟨E, 2, none⟩ = some (.string ⟨xd.toArray⟩) := Blk.c hbE 2; clear hbE)
                | (go_at_call 27; (with_reducible refine (dr2 _ HX.out).mono ?_); rintro e w2 ⟨rfl, hx2⟩; have hxn := HX.out.then0 hx2; clear hx2 HX cq cd e0 e1 e2; have HX := Hid.of hxn; clear hxn; have cq : w2.cell? ⟨wq, 1, none⟩ = some (.pointer (some ⟨q, 0, none⟩)) := Blk.c (HS5.out.keep HX.out).blk 1; have cd : w2.cell? ⟨wq, 0, none⟩ = some (.pointer (some ⟨b, 0, none⟩)) := Blk.c (HS5.out.keep HX.out).blk 0; have hbE := Blk.keep HE5.out HX.out (by simp); have e0 : w2.cell? ⟨E, 0, none⟩ = some (.int .i64 xi) := Blk.c hbE 0; have e1 : w2.cell? ⟨E, 1, none⟩ = some (.int .i64 xt) := Blk.c hbE 1; have e2 : w2.cell? ⟨E, 2, none⟩ = some (.string ⟨xd.toArray⟩) := Blk.c hbE 2; clear hbE)
                | (go_at_call 27; (with_reducible refine (drop_nil 1 _).mono ?_); rintro e w2 ⟨rfl, hx2⟩; have hxn := HX.out.then0 hx2; clear hx2 HX cq cd e0 e1 e2; have HX := Hid.of hxn; clear hxn; have cq : w2.cell? ⟨wq, 1, none⟩ = some (.pointer (some ⟨q, 0, none⟩)) := Blk.c (HS5.out.keep HX.out).blk 1; have cd : w2.cell? ⟨wq, 0, none⟩ = some (.pointer (some ⟨b, 0, none⟩)) := Blk.c (HS5.out.keep HX.out).blk 0; have hbE := Blk.keep HE5.out HX.out (by simp); have e0 : w2.cell? ⟨E, 0, none⟩ = some (.int .i64 xi) := Blk.c hbE 0; have e1 : w2.cell? ⟨E, 1, none⟩ = some (.int .i64 xt) := Blk.c hbE 1; have e2 : w2.cell? ⟨E, 2, none⟩ = some (.string ⟨xd.toArray⟩) := Blk.c hbE 2; clear hbE)
                | (go_at_call 22; (with_reducible refine (md1 _ HX.out).mono ?_); rintro e w2 ⟨rfl, hx2⟩; have hxn := HX.out.then0 hx2; clear hx2 HX cq cd e0 e1 e2; have HX := Hid.of hxn; clear hxn; have cq : w2.cell? ⟨wq, 1, none⟩ = some (.pointer (some ⟨q, 0, none⟩)) := Blk.c (HS5.out.keep HX.out).blk 1; have cd : w2.cell? ⟨wq, 0, none⟩ = some (.pointer (some ⟨b, 0, none⟩)) := Blk.c (HS5.out.keep HX.out).blk 0; have hbE := Blk.keep HE5.out HX.out (by simp); have e0 : w2.cell? ⟨E, 0, none⟩ = some (.int .i64 xi) := Blk.c hbE 0; have e1 : w2.cell? ⟨E, 1, none⟩ = some (.int .i64 xt) := Blk.c hbE 1; have e2 : w2.cell? ⟨E, 2, none⟩ = some (.string ⟨xd.toArray⟩) := Blk.c hbE 2; clear hbE)
                | (go_at_call 22; (with_reducible refine (mnil _).mono ?_); rintro e w2 ⟨rfl, hx2⟩; have hxn := HX.out.then0 hx2; clear hx2 HX cq cd e0 e1 e2; have HX := Hid.of hxn; clear hxn; have cq : w2.cell? ⟨wq, 1, none⟩ = some (.pointer (some ⟨q, 0, none⟩)) := Blk.c (HS5.out.keep HX.out).blk 1; have cd : w2.cell? ⟨wq, 0, none⟩ = some (.pointer (some ⟨b, 0, none⟩)) := Blk.c (HS5.out.keep HX.out).blk 0; have hbE := Blk.keep HE5.out HX.out (by simp); have e0 : w2.cell? ⟨E, 0, none⟩ = some (.int .i64 xi) := Blk.c hbE 0; have e1 : w2.cell? ⟨E, 1, none⟩ = some (.int .i64 xt) := Blk.c hbE 1; have e2 : w2.cell? ⟨E, 2, none⟩ = some (.string ⟨xd.toArray⟩) := Blk.c hbE 2; clear hbE)
                | (go_at_call 29; (with_reducible refine (fnil _).mono ?_); rintro e w2 ⟨rfl, hx2⟩; have hxn := HX.out.then0 hx2; clear hx2 HX cq cd e0 e1 e2; have HX := Hid.of hxn; clear hxn; have cq : w2.cell? ⟨wq, 1, none⟩ = some (.pointer (some ⟨q, 0, none⟩)) := Blk.c (HS5.out.keep HX.out).blk 1; have cd : w2.cell? ⟨wq, 0, none⟩ = some (.pointer (some ⟨b, 0, none⟩)) := Blk.c (HS5.out.keep HX.out).blk 0; have hbE := Blk.keep HE5.out HX.out (by simp); have e0 : w2.cell? ⟨E, 0, none⟩ = some (.int .i64 xi) := Blk.c hbE 0; have e1 : w2.cell? ⟨E, 1, none⟩ = some (.int .i64 xt) := Blk.c hbE 1; have e2 : w2.cell? ⟨E, 2, none⟩ = some (.string ⟨xd.toArray⟩) := Blk.c hbE 2; clear hbE)
                | (go_at_call 21; (with_reducible refine (lnil _).mono ?_); rintro e w2 ⟨rfl, hx2⟩; have hxn := HX.out.then0 hx2; clear hx2 HX cq cd e0 e1 e2; have HX := Hid.of hxn; clear hxn; have cq : w2.cell? ⟨wq, 1, none⟩ = some (.pointer (some ⟨q, 0, none⟩)) := Blk.c (HS5.out.keep HX.out).blk 1; have cd : w2.cell? ⟨wq, 0, none⟩ = some (.pointer (some ⟨b, 0, none⟩)) := Blk.c (HS5.out.keep HX.out).blk 0; have hbE := Blk.keep HE5.out HX.out (by simp); have e0 : w2.cell? ⟨E, 0, none⟩ = some (.int .i64 xi) := Blk.c hbE 0; have e1 : w2.cell? ⟨E, 1, none⟩ = some (.int .i64 xt) := Blk.c hbE 1; have e2 : w2.cell? ⟨E, 2, none⟩ = some (.string ⟨xd.toArray⟩) := Blk.c hbE 2; clear hbE)
                | (go_at_call 32; (with_reducible refine (rnil _).mono ?_); rintro e w2 ⟨rfl, hx2⟩; have hxn := HX.out.then0 hx2; clear hx2 HX cq cd e0 e1 e2; have HX := Hid.of hxn; clear hxn; have cq : w2.cell? ⟨wq, 1, none⟩ = some (.pointer (some ⟨q, 0, none⟩)) := Blk.c (HS5.out.keep HX.out).blk 1; have cd : w2.cell? ⟨wq, 0, none⟩ = some (.pointer (some ⟨b, 0, none⟩)) := Blk.c (HS5.out.keep HX.out).blk 0; have hbE := Blk.keep HE5.out HX.out (by simp); have e0 : w2.cell? ⟨E, 0, none⟩ = some (.int .i64 xi) := Blk.c hbE 0; have e1 : w2.cell? ⟨E, 1, none⟩ = some (.int .i64 xt) := Blk.c hbE 1; have e2 : w2.cell? ⟨E, 2, none⟩ = some (.string ⟨xd.toArray⟩) := Blk.c hbE 2; clear hbE)
                | (go_at_call 33; (with_reducible refine (tnil _).mono ?_); rintro e w2 ⟨rfl, hx2⟩; have hxn := HX.out.then0 hx2; clear hx2 HX cq cd e0 e1 e2; have HX := Hid.of hxn; clear hxn; have cq : w2.cell? ⟨wq, 1, none⟩ = some (.pointer (some ⟨q, 0, none⟩)) := Blk.c (HS5.out.keep HX.out).blk 1; have cd : w2.cell? ⟨wq, 0, none⟩ = some (.pointer (some ⟨b, 0, none⟩)) := Blk.c (HS5.out.keep HX.out).blk 0; have hbE := Blk.keep HE5.out HX.out (by simp); have e0 : w2.cell? ⟨E, 0, none⟩ = some (.int .i64 xi) := Blk.c hbE 0; have e1 : w2.cell? ⟨E, 1, none⟩ = some (.int .i64 xt) := Blk.c hbE 1; have e2 : w2.cell? ⟨E, 2, none⟩ = some (.string ⟨xd.toArray⟩) := Blk.c hbE 2; clear hbE)
                | (go_at_call 19; (with_reducible refine (hnil _).mono ?_); rintro e w2 ⟨rfl, hx2⟩; have hxn := HX.out.then0 hx2; clear hx2 HX cq cd e0 e1 e2; have HX := Hid.of hxn; clear hxn; have cq : w2.cell? ⟨wq, 1, none⟩ = some (.pointer (some ⟨q, 0, none⟩)) := Blk.c (HS5.out.keep HX.out).blk 1; have cd : w2.cell? ⟨wq, 0, none⟩ = some (.pointer (some ⟨b, 0, none⟩)) := Blk.c (HS5.out.keep HX.out).blk 0; have hbE := Blk.keep HE5.out HX.out (by simp); have e0 : w2.cell? ⟨E, 0, none⟩ = some (.int .i64 xi) := Blk.c hbE 0; have e1 : w2.cell? ⟨E, 1, none⟩ = some (.int .i64 xt) := Blk.c hbE 1; have e2 : w2.cell? ⟨E, 2, none⟩ = some (.string ⟨xd.toArray⟩) := Blk.c hbE 2; clear hbE)
                | (go_at_call 26; (with_reducible refine (append_nil _).mono ?_); rintro e w2 ⟨rfl, hx2⟩; have hxn := HX.out.then0 hx2; clear hx2 HX cq cd e0 e1 e2; have HX := Hid.of hxn; clear hxn; have cq : w2.cell? ⟨wq, 1, none⟩ = some (.pointer (some ⟨q, 0, none⟩)) := Blk.c (HS5.out.keep HX.out).blk 1; have cd : w2.cell? ⟨wq, 0, none⟩ = some (.pointer (some ⟨b, 0, none⟩)) := Blk.c (HS5.out.keep HX.out).blk 0; have hbE := Blk.keep HE5.out HX.out (by simp); have e0 : w2.cell? ⟨E, 0, none⟩ = some (.int .i64 xi) := Blk.c hbE 0; have e1 : w2.cell? ⟨E, 1, none⟩ = some (.int .i64 xt) := Blk.c hbE 1; have e2 : w2.cell? ⟨E, 2, none⟩ = some (.string ⟨xd.toArray⟩) := Blk.c hbE 2; clear hbE))
              go_ret
              exact ⟨rfl, HS5.out.ext.then0 HX.out⟩
end Go.Proofs.Ytmjgbkepngeckaa
