/- Law 14, MsgLimits. (Printed by wip/gen_mlimits.py.) -/
import Derived.Test.YtaekkkcgoegllaaLawMapart
import Derived.Test.YtaekkkcgoegllaaLawMturned
import Derived.Deep.OwnRows
namespace Go.Proofs.Ytaekkkcgoegllaa
open Go.RowKit
set_option linter.unusedVariables false
set_option linter.unusedSimpArgs false
attribute [local go_sem] i64_and1

def lim0 : Ms := ⟨6, 0, 0, 0, 0, 0, 0, 0, none, 0, 0, false, 0, 0, 0, 0, none, 0, 0, 0, []⟩
theorem made_u8 (n : Nat) : madeCells #[.int .u8 0] n = (bcells (List.replicate n (0 : UInt8))).toArray := by
  apply Array.ext
  · rw [size_madeCells]; simp [bcells]
  · intro i h1 h2
    simp [madeCells, bcells, Nat.mod_one]
theorem made_str (w : World) (n : Nat) (h : n ≤ 1000) : (convert 57 9 (.slice (some ⟨w.heap.size, 0, none⟩) n n)).run Try.prog (w.alloc (.cells (madeCells #[.int .u8 0] n) 5)) = .ok (str (List.replicate n 0)) (w.alloc (.cells (madeCells #[.int .u8 0] n) 5)) := by
  have ho : Own (w.alloc (.cells (madeCells #[.int .u8 0] n) 5)) 5 1 (.slice (some ⟨w.heap.size, 0, none⟩) n n) n (madeCells #[.int .u8 0] n).toList := Own.lit w (madeCells #[.int .u8 0] n) 5 1 n (by rw [size_madeCells]; simp) (by unfold maxLen; omega)
  have ho2 : OwnB (w.alloc (.cells (madeCells #[.int .u8 0] n) 5)) (.slice (some ⟨w.heap.size, 0, none⟩) n n) (List.replicate n 0) := by
    unfold OwnB
    rw [List.length_replicate]
    have e : (madeCells #[.int .u8 0] n).toList = bcells (List.replicate n 0) := by rw [made_u8]
    rw [← e]
    exact ho
  exact ho2.str
theorem lim_at {w : World} {m : Ms} {es : List En} (h1 : m.sa = none) (h2 : m.sn = 0) (h3 : m.sc = 0) (h4 : I64 m.kind ∧ I64 m.frm ∧ I64 m.too ∧ I64 m.term ∧ I64 m.index ∧ I64 m.logT ∧ I64 m.last ∧ I64 m.commit ∧ I64 m.state ∧ I64 m.li ∧ I64 m.lt ∧ I64 m.lb ∧ I64 m.part) (h5 : m.data.length ≤ maxLen) (h6 : ∀ e ∈ es, e.ok) (h7 : Rd w 3 (.slice m.ea m.en m.ec) m.en (es.flatMap En.cells)) : MsAt w m es [] :=
  ⟨h4, h5, h7, h6, by rw [h1, h2, h3]; exact Rd.nil _ _⟩
def LimCut (w : World) (P : Nat) (O : Bool) (wx : World) : Prop := ∃ (nn : Ms) (es : List En), Blk wx P 36 nn.cells ∧ MsAt wx nn es [] ∧ decide (RightM nn es []) = O ∧ es.length ≤ 8 ∧ Ext [] w wx
set_option maxRecDepth 100000 in
set_option maxHeartbeats 25600000 in
theorem mlimits_any (which : Int) (hwh : -9223372036854775808 ≤ which ∧ which ≤ 9223372036854775807) (n : Int) (hn : -9223372036854775808 ≤ n ∧ n ≤ 9223372036854775807) (w : World) : Calls Try.prog 10 #[.int .i64 which, .int .i64 n] w fun e w' => e = .returned (.bool true) ∧ Ext [] w w' := by
  have ch := mhead_any w
  obtain ⟨k, hq, hk0, hk7⟩ := tmod8 which
  have hmk0 := fun (m : Nat) (h : m ≤ 1000) => run_make_row' (P := Try.prog) 57 5 (.int .u8 0) 1 Try.underlying57 (by kernel_rfl) rfl .i64 .i64 m (by omega) (by omega)
  have HMK := Hid.of hmk0
  clear hmk0
  go_enter Try.func10, Try.ntmps10
  have hpar : n % 2 = 0 ∨ n % 2 = 1 := by omega
  rcases hpar with hp | hp
  · go_upto_region 4 with (first
      | (go_at_call 19; (with_reducible refine ch.mono ?_); rintro e w1 ⟨rfl, hx1⟩; have HX1 := Hid.of hx1; clear hx1 ch)
      | (refine wpList_new_row rfl rfl 36 _ _ _ rfl rfl rfl rfl _ al_msg lim0.cells rfl (by kernel_rfl) (mcells_one _) rfl rfl ?_; obtain ⟨W, hW⟩ : ∃ W, W = w1.alloc (.cells lim0.cells.toArray 36) := ⟨_, rfl⟩; obtain ⟨P, hP⟩ : ∃ P, P = w1.heap.size := ⟨_, rfl⟩; have HB := Hid.of (by rw [hW, hP]; exact Blk.new _ _ _ : Blk W P 36 lim0.cells); have HXW := Hid.of (by rw [hW]; exact HX1.out.alloc _ : Ext [] w W); have hPw : w.heap.size ≤ P := (by rw [hP]; exact HX1.out.size); rw [← hW, ← hP]; clear hW hP))
    go_upto_block 0 with fail
    go_cut [] (fun wx => LimCut w P true wx)
    case first =>
      rcases (show k = 0 ∨ k = 1 ∨ k = 2 ∨ k = 3 ∨ k = 4 ∨ k = 5 ∨ k = 6 ∨ k = 7 by omega) with rfl | rfl | rfl | rfl | rfl | rfl | rfl | rfl
      · have hPl := HB.out.lt
        have hBx : Blk W P 36 lim0.cells := HB.out
        have z1 : W.cell? ⟨P, 1, none⟩ = some (.int .i64 0) := hBx.c 1
        have z2 : W.frozen? ⟨P, 1, none⟩ = false := hBx.f 1
        obtain ⟨V, hV⟩ : ∃ V, V = (W.setCell ⟨P, 1, none⟩ (.int .i64 281474976710655)) := ⟨_, rfl⟩
        obtain ⟨nn, hnn⟩ : ∃ m, m = ({ lim0 with frm := 281474976710655 } : Ms) := ⟨_, rfl⟩
        have hb : Blk V P 36 nn.cells := by rw [hV]; subst hnn; exact (HB.out.set 1 (.int .i64 281474976710655))
        have hxv : Ext [P] W V := by rw [hV]; exact ((Ext.refl _ _).setCell (.inl (by simp)) _)
        have hat : MsAt V nn ([] : List En) [] := by
          subst hnn
          exact lim_at rfl rfl rfl (by unfold lim0 I64; simp only; omega) (by show 0 ≤ maxLen; unfold maxLen; omega) (by simp [En.ok, I64, maxLen]) (Rd.nil _ _)
        have hrm : decide (RightM nn ([] : List En) []) = true := decide_eq_true (by subst hnn; unfold RightM lim0 R48; simp [En.right, R48])
        have HE : Hid (LimCut w P true V) := Hid.of ⟨nn, ([] : List En), hb, hat, hrm, by simp, HXW.out.trans hxv (fun z hz => .inr (by simp at hz; omega))⟩
        have HV := Hid.of hV
        clear hnn hV hb hxv hat hrm hBx
        go_wp2
        go_meet
        rw [← HV.out]
        exact HE.out
      · have hPl := HB.out.lt
        have hBx : Blk W P 36 lim0.cells := HB.out
        have z1 : W.cell? ⟨P, 3, none⟩ = some (.int .i64 0) := hBx.c 3
        have z2 : W.frozen? ⟨P, 3, none⟩ = false := hBx.f 3
        obtain ⟨V, hV⟩ : ∃ V, V = (W.setCell ⟨P, 3, none⟩ (.int .i64 281474976710655)) := ⟨_, rfl⟩
        obtain ⟨nn, hnn⟩ : ∃ m, m = ({ lim0 with term := 281474976710655 } : Ms) := ⟨_, rfl⟩
        have hb : Blk V P 36 nn.cells := by rw [hV]; subst hnn; exact (HB.out.set 3 (.int .i64 281474976710655))
        have hxv : Ext [P] W V := by rw [hV]; exact ((Ext.refl _ _).setCell (.inl (by simp)) _)
        have hat : MsAt V nn ([] : List En) [] := by
          subst hnn
          exact lim_at rfl rfl rfl (by unfold lim0 I64; simp only; omega) (by show 0 ≤ maxLen; unfold maxLen; omega) (by simp [En.ok, I64, maxLen]) (Rd.nil _ _)
        have hrm : decide (RightM nn ([] : List En) []) = true := decide_eq_true (by subst hnn; unfold RightM lim0 R48; simp [En.right, R48])
        have HE : Hid (LimCut w P true V) := Hid.of ⟨nn, ([] : List En), hb, hat, hrm, by simp, HXW.out.trans hxv (fun z hz => .inr (by simp at hz; omega))⟩
        have HV := Hid.of hV
        clear hnn hV hb hxv hat hrm hBx
        go_wp2
        go_meet
        rw [← HV.out]
        exact HE.out
      · have hPl := HB.out.lt
        have hBx : Blk W P 36 lim0.cells := HB.out
        have z1 : W.cell? ⟨P, 12, none⟩ = some (.int .i64 0) := hBx.c 12
        have z2 : W.frozen? ⟨P, 12, none⟩ = false := hBx.f 12
        obtain ⟨V, hV⟩ : ∃ V, V = (W.setCell ⟨P, 12, none⟩ (.int .i64 281474976710655)) := ⟨_, rfl⟩
        obtain ⟨nn, hnn⟩ : ∃ m, m = ({ lim0 with lt := 281474976710655 } : Ms) := ⟨_, rfl⟩
        have hb : Blk V P 36 nn.cells := by rw [hV]; subst hnn; exact (HB.out.set 12 (.int .i64 281474976710655))
        have hxv : Ext [P] W V := by rw [hV]; exact ((Ext.refl _ _).setCell (.inl (by simp)) _)
        have hat : MsAt V nn ([] : List En) [] := by
          subst hnn
          exact lim_at rfl rfl rfl (by unfold lim0 I64; simp only; omega) (by show 0 ≤ maxLen; unfold maxLen; omega) (by simp [En.ok, I64, maxLen]) (Rd.nil _ _)
        have hrm : decide (RightM nn ([] : List En) []) = true := decide_eq_true (by subst hnn; unfold RightM lim0 R48; simp [En.right, R48])
        have HE : Hid (LimCut w P true V) := Hid.of ⟨nn, ([] : List En), hb, hat, hrm, by simp, HXW.out.trans hxv (fun z hz => .inr (by simp at hz; omega))⟩
        have HV := Hid.of hV
        clear hnn hV hb hxv hat hrm hBx
        go_wp2
        go_meet
        rw [← HV.out]
        exact HE.out
      · have hPl := HB.out.lt
        have hBx : Blk (W.alloc (.cells #[.int .i64 281474976710655, .int .i64 0, .string ⟨#[]⟩] 60)) P 36 lim0.cells := (HB.out.alloc _)
        have z1 : (W.alloc (.cells #[.int .i64 281474976710655, .int .i64 0, .string ⟨#[]⟩] 60)).cell? ⟨P, 8, none⟩ = some (.slice none 0 0) := hBx.c 8
        have z2 : (W.alloc (.cells #[.int .i64 281474976710655, .int .i64 0, .string ⟨#[]⟩] 60)).frozen? ⟨P, 8, none⟩ = false := hBx.f 8
        obtain ⟨V, hV⟩ : ∃ V, V = ((W.setCell ⟨P, 8, none⟩ (.slice (some ⟨W.heap.size, 0, none⟩) 1 1)).alloc (.cells #[.int .i64 281474976710655, .int .i64 0, .string ⟨#[]⟩] 60)) := ⟨_, rfl⟩
        obtain ⟨nn, hnn⟩ : ∃ m, m = ({ lim0 with ea := (some ⟨W.heap.size, 0, none⟩), en := 1, ec := 1 } : Ms) := ⟨_, rfl⟩
        have hb : Blk V P 36 nn.cells := by rw [hV]; subst hnn; exact ((HB.out.set 8 (.slice (some ⟨W.heap.size, 0, none⟩) 1 1)).alloc _)
        have hxv : Ext [P] W V := by rw [hV]; exact (((Ext.refl _ _).setCell (.inl (by simp)) _).alloc _)
        have hat : MsAt V nn ([⟨281474976710655, 0, []⟩] : List En) [] := by
          subst hnn
          exact lim_at rfl rfl rfl (by unfold lim0 I64; simp only; omega) (by show 0 ≤ maxLen; unfold maxLen; omega) (by simp [En.ok, I64, maxLen]) (by rw [hV]; exact Rd.litg #[.int .i64 281474976710655, .int .i64 0, .string ⟨#[]⟩] 60 3 1 rfl (by unfold maxLen; omega) (by simp only [World.size_setCell]))
        have hrm : decide (RightM nn ([⟨281474976710655, 0, []⟩] : List En) []) = true := decide_eq_true (by subst hnn; unfold RightM lim0 R48; simp [En.right, R48])
        have HE : Hid (LimCut w P true V) := Hid.of ⟨nn, ([⟨281474976710655, 0, []⟩] : List En), hb, hat, hrm, by simp, HXW.out.trans hxv (fun z hz => .inr (by simp at hz; omega))⟩
        have HV := Hid.of hV
        clear hnn hV hb hxv hat hrm hBx
        go_wp2
        go_meet
        rw [← HV.out]
        exact HE.out
      · have hmk : ∀ W : World, (Instr.makeSlice 30 (.int .i64 4) (.int .i64 4)).run Try.prog W = .ok (.slice (some ⟨W.heap.size, 0, none⟩) 4 4) (W.alloc (.cells #[.int .i64 0, .int .i64 0, str [], .int .i64 0, .int .i64 0, str [], .int .i64 0, .int .i64 0, str [], .int .i64 0, .int .i64 0, str []] 60)) := fun W => by kernel_rfl
        have hPl := HB.out.lt
        have hBx : Blk (W.alloc (.cells #[.int .i64 0, .int .i64 0, str [], .int .i64 0, .int .i64 0, str [], .int .i64 0, .int .i64 0, str [], .int .i64 0, .int .i64 0, str []] 60)) P 36 lim0.cells := (HB.out.alloc _)
        have z1 : (W.alloc (.cells #[.int .i64 0, .int .i64 0, str [], .int .i64 0, .int .i64 0, str [], .int .i64 0, .int .i64 0, str [], .int .i64 0, .int .i64 0, str []] 60)).cell? ⟨P, 8, none⟩ = some (.slice none 0 0) := hBx.c 8
        have z2 : (W.alloc (.cells #[.int .i64 0, .int .i64 0, str [], .int .i64 0, .int .i64 0, str [], .int .i64 0, .int .i64 0, str [], .int .i64 0, .int .i64 0, str []] 60)).frozen? ⟨P, 8, none⟩ = false := hBx.f 8
        obtain ⟨V, hV⟩ : ∃ V, V = ((W.setCell ⟨P, 8, none⟩ (.slice (some ⟨W.heap.size, 0, none⟩) 4 4)).alloc (.cells #[.int .i64 0, .int .i64 0, str [], .int .i64 0, .int .i64 0, str [], .int .i64 0, .int .i64 0, str [], .int .i64 0, .int .i64 0, str []] 60)) := ⟨_, rfl⟩
        obtain ⟨nn, hnn⟩ : ∃ m, m = ({ lim0 with ea := (some ⟨W.heap.size, 0, none⟩), en := 4, ec := 4 } : Ms) := ⟨_, rfl⟩
        have hb : Blk V P 36 nn.cells := by rw [hV]; subst hnn; exact ((HB.out.set 8 (.slice (some ⟨W.heap.size, 0, none⟩) 4 4)).alloc _)
        have hxv : Ext [P] W V := by rw [hV]; exact (((Ext.refl _ _).setCell (.inl (by simp)) _).alloc _)
        have hat : MsAt V nn ([⟨0, 0, []⟩, ⟨0, 0, []⟩, ⟨0, 0, []⟩, ⟨0, 0, []⟩] : List En) [] := by
          subst hnn
          exact lim_at rfl rfl rfl (by unfold lim0 I64; simp only; omega) (by show 0 ≤ maxLen; unfold maxLen; omega) (by simp [En.ok, I64, maxLen]) (by rw [hV]; exact Rd.litg #[.int .i64 0, .int .i64 0, str [], .int .i64 0, .int .i64 0, str [], .int .i64 0, .int .i64 0, str [], .int .i64 0, .int .i64 0, str []] 60 3 4 rfl (by unfold maxLen; omega) (by simp only [World.size_setCell]))
        have hrm : decide (RightM nn ([⟨0, 0, []⟩, ⟨0, 0, []⟩, ⟨0, 0, []⟩, ⟨0, 0, []⟩] : List En) []) = true := decide_eq_true (by subst hnn; unfold RightM lim0 R48; simp [En.right, R48])
        have HE : Hid (LimCut w P true V) := Hid.of ⟨nn, ([⟨0, 0, []⟩, ⟨0, 0, []⟩, ⟨0, 0, []⟩, ⟨0, 0, []⟩] : List En), hb, hat, hrm, by simp, HXW.out.trans hxv (fun z hz => .inr (by simp at hz; omega))⟩
        have HV := Hid.of hV
        clear hnn hV hb hxv hat hrm hBx
        go_wp2
        go_meet
        rw [← HV.out]
        exact HE.out
      · obtain ⟨D, hD, hDl⟩ : ∃ D : List UInt8, D = List.replicate 400 0 ∧ D.length = 400 := ⟨_, rfl, List.length_replicate⟩
        have hmk : ∀ W : World, (Instr.makeSlice 57 (.int .i64 400) (.int .i64 400)).run Try.prog W = .ok (.slice (some ⟨W.heap.size, 0, none⟩) 400 400) (W.alloc (.cells (madeCells #[.int .u8 0] 400) 5)) := fun W => HMK.out 400 (by omega) W
        have hcv := made_str W 400 (by omega)
        rw [← hD] at hcv
        clear hD
        have hPl := HB.out.lt
        have hBx : Blk (W.alloc (.cells (madeCells #[.int .u8 0] 400) 5)) P 36 lim0.cells := (HB.out.alloc _)
        have z1 : (W.alloc (.cells (madeCells #[.int .u8 0] 400) 5)).cell? ⟨P, 16, none⟩ = some (.string ByteArray.empty) := hBx.c 16
        have z2 : (W.alloc (.cells (madeCells #[.int .u8 0] 400) 5)).frozen? ⟨P, 16, none⟩ = false := hBx.f 16
        obtain ⟨V, hV⟩ : ∃ V, V = ((W.setCell ⟨P, 16, none⟩ (str D)).alloc (.cells (madeCells #[.int .u8 0] 400) 5)) := ⟨_, rfl⟩
        obtain ⟨nn, hnn⟩ : ∃ m, m = ({ lim0 with data := D } : Ms) := ⟨_, rfl⟩
        have hb : Blk V P 36 nn.cells := by rw [hV]; subst hnn; exact ((HB.out.set 16 (str D)).alloc _)
        have hxv : Ext [P] W V := by rw [hV]; exact (((Ext.refl _ _).setCell (.inl (by simp)) _).alloc _)
        have hat : MsAt V nn ([] : List En) [] := by
          subst hnn
          exact lim_at rfl rfl rfl (by unfold lim0 I64; simp only; omega) (by show D.length ≤ maxLen; unfold maxLen; omega) (by simp [En.ok, I64, maxLen]) (Rd.nil _ _)
        have hrm : decide (RightM nn ([] : List En) []) = true := decide_eq_true (by subst hnn; unfold RightM lim0 R48; simp [En.right, R48, hDl])
        have HE : Hid (LimCut w P true V) := Hid.of ⟨nn, ([] : List En), hb, hat, hrm, by simp, HXW.out.trans hxv (fun z hz => .inr (by simp at hz; omega))⟩
        have HV := Hid.of hV
        clear hnn hV hb hxv hat hrm hBx
        go_wp2
        go_meet
        rw [← HV.out]
        exact HE.out
      · obtain ⟨D, hD, hDl⟩ : ∃ D : List UInt8, D = List.replicate 488 0 ∧ D.length = 488 := ⟨_, rfl, List.length_replicate⟩
        have hmk : ∀ W : World, (Instr.makeSlice 57 (.int .i64 488) (.int .i64 488)).run Try.prog W = .ok (.slice (some ⟨W.heap.size, 0, none⟩) 488 488) (W.alloc (.cells (madeCells #[.int .u8 0] 488) 5)) := fun W => HMK.out 488 (by omega) W
        have hcv := made_str W 488 (by omega)
        rw [← hD] at hcv
        clear hD
        have hPl := HB.out.lt
        have hBx : Blk ((W.alloc (.cells (madeCells #[.int .u8 0] 488) 5)).alloc (.cells #[.int .i64 0, .int .i64 0, str D] 60)) P 36 lim0.cells := ((HB.out.alloc _).alloc _)
        have z1 : ((W.alloc (.cells (madeCells #[.int .u8 0] 488) 5)).alloc (.cells #[.int .i64 0, .int .i64 0, str D] 60)).cell? ⟨P, 8, none⟩ = some (.slice none 0 0) := hBx.c 8
        have z2 : ((W.alloc (.cells (madeCells #[.int .u8 0] 488) 5)).alloc (.cells #[.int .i64 0, .int .i64 0, str D] 60)).frozen? ⟨P, 8, none⟩ = false := hBx.f 8
        obtain ⟨V, hV⟩ : ∃ V, V = (((W.setCell ⟨P, 8, none⟩ (.slice (some ⟨W.heap.size + 1, 0, none⟩) 1 1)).alloc (.cells (madeCells #[.int .u8 0] 488) 5)).alloc (.cells #[.int .i64 0, .int .i64 0, str D] 60)) := ⟨_, rfl⟩
        obtain ⟨nn, hnn⟩ : ∃ m, m = ({ lim0 with ea := (some ⟨W.heap.size + 1, 0, none⟩), en := 1, ec := 1 } : Ms) := ⟨_, rfl⟩
        have hb : Blk V P 36 nn.cells := by rw [hV]; subst hnn; exact (((HB.out.set 8 (.slice (some ⟨W.heap.size + 1, 0, none⟩) 1 1)).alloc _).alloc _)
        have hxv : Ext [P] W V := by rw [hV]; exact ((((Ext.refl _ _).setCell (.inl (by simp)) _).alloc _).alloc _)
        have hat : MsAt V nn ([⟨0, 0, D⟩] : List En) [] := by
          subst hnn
          exact lim_at rfl rfl rfl (by unfold lim0 I64; simp only; omega) (by show 0 ≤ maxLen; unfold maxLen; omega) (by simp [En.ok, I64, maxLen]; omega) (by rw [hV]; exact Rd.litg #[.int .i64 0, .int .i64 0, str D] 60 3 1 rfl (by unfold maxLen; omega) (by simp only [World.size_alloc, World.size_setCell]))
        have hrm : decide (RightM nn ([⟨0, 0, D⟩] : List En) []) = true := decide_eq_true (by subst hnn; unfold RightM lim0 R48; simp [En.right, R48, hDl])
        have HE : Hid (LimCut w P true V) := Hid.of ⟨nn, ([⟨0, 0, D⟩] : List En), hb, hat, hrm, by simp, HXW.out.trans hxv (fun z hz => .inr (by simp at hz; omega))⟩
        have HV := Hid.of hV
        clear hnn hV hb hxv hat hrm hBx
        go_wp2
        go_meet
        rw [← HV.out]
        exact HE.out
      · have hPl := HB.out.lt
        have hBx : Blk W P 36 lim0.cells := HB.out
        have z1 : W.cell? ⟨P, 7, none⟩ = some (.int .i64 0) := hBx.c 7
        have z2 : W.frozen? ⟨P, 7, none⟩ = false := hBx.f 7
        obtain ⟨V, hV⟩ : ∃ V, V = (W.setCell ⟨P, 7, none⟩ (.int .i64 (0))) := ⟨_, rfl⟩
        obtain ⟨nn, hnn⟩ : ∃ m, m = ({ lim0 with commit := 0 } : Ms) := ⟨_, rfl⟩
        have hb : Blk V P 36 nn.cells := by rw [hV]; subst hnn; exact (HB.out.set 7 (.int .i64 (0)))
        have hxv : Ext [P] W V := by rw [hV]; exact ((Ext.refl _ _).setCell (.inl (by simp)) _)
        have hat : MsAt V nn ([] : List En) [] := by
          subst hnn
          exact lim_at rfl rfl rfl (by unfold lim0 I64; simp only; omega) (by show 0 ≤ maxLen; unfold maxLen; omega) (by simp [En.ok, I64, maxLen]) (Rd.nil _ _)
        have hrm : decide (RightM nn ([] : List En) []) = true := decide_eq_true (by subst hnn; unfold RightM lim0 R48; simp [En.right, R48])
        have HE : Hid (LimCut w P true V) := Hid.of ⟨nn, ([] : List En), hb, hat, hrm, by simp, HXW.out.trans hxv (fun z hz => .inr (by simp at hz; omega))⟩
        have HV := Hid.of hV
        clear hnn hV hb hxv hat hrm hBx
        go_wp2
        go_meet
        rw [← HV.out]
        exact HE.out
    case rest =>
      obtain ⟨nn, es, hb, hat, hrm, hle, hx⟩ := hcut
      have hR : RightM nn es [] := of_decide_eq_true hrm
      have HR := Hid.of hR
      have HX := Hid.of hx
      have HBn := Hid.of hb
      have HRow := Hid.of hb.range
      have HAn := Hid.of hat
      have cb := bytes_any nn es [] _ hat (by omega)
      rw [if_pos hR] at cb
      obtain ⟨S, hS⟩ : ∃ S, S = encM nn es [] := ⟨_, rfl⟩
      have cr := mread_enc nn es [] hR
      rw [← hS] at cb cr
      have crt := right_any nn es []
      have HRD := Hid.of hrm
      clear hS hb hat hrm hx hR
      go_wp2_with (first
        | (refine wpList_load_mid rfl 36 _ rfl P 0 rfl nn.cells _ HRow.out Try.underlying36 rfl (by rw [mcells_len]; kernel_rfl) ?_)
        | (go_at_call 21; (with_reducible refine cb.mono ?_); rintro e w2 ⟨rfl, hx2⟩; have HX2 := Hid.of (HX.out.then0 hx2); have HB2 := Hid.of (HBn.out.keep hx2 (by simp)); have HA2 := Hid.of (HAn.out.keep0 hx2); clear hx2 cb)
        | (go_at_call 27; (with_reducible refine (cr _).mono ?_); rintro e w3 ⟨hx3, x, rfl, hxa, hxm, hxr⟩; have HX3 := Hid.of (HX2.out.then0 hx3); have HXA := Hid.of hxa; have HXM := Hid.of hxm; have HXR := Hid.of hxr; have HB3 := Hid.of (HB2.out.keep hx3 (by simp)); have HA3 := Hid.of (HA2.out.keep0 hx3); clear hx3 hxa hxm hxr cr)
        | (refine wpList_new_row rfl rfl 36 _ _ _ rfl rfl rfl rfl _ al_msg x.cells rfl (by kernel_rfl) (mcells_one _) rfl rfl ?_; have hb4 := Blk.new w3 36 x.cells.toArray; have x4 : Ext [] w3 (w3.alloc (.cells x.cells.toArray 36)) := (Ext.refl [] w3).alloc _; have HX4 := Hid.of (HX3.out.then0 x4); have HXA4 := Hid.of (HXA.out.keep0 x4); have HA4 := Hid.of (HA3.out.keep0 x4); have HB4 := Hid.of (HB3.out.keep x4 (by simp)); have HR4 := Hid.of (HB3.out.keep x4 (by simp)).range; have HQ4 := Hid.of hb4; have cR := crt _ HA4.out (by omega); rw [HRD.out] at cR; clear hb4 x4 crt)
        | (refine wpList_load_mid rfl 36 _ rfl P 0 rfl nn.cells _ HR4.out Try.underlying36 rfl (by rw [mcells_len]; kernel_rfl) ?_)
        | (go_at_call 22; (with_reducible refine cR.mono ?_); rintro e w5 ⟨rfl, hx5⟩; have HX5 := Hid.of (HX4.out.then0 hx5); have HR5 := Hid.of (HB4.out.keep hx5 (by simp)).range; have HQR5 := Hid.of (HQ4.out.keep hx5 (by simp)).range; have cs := same_m x nn es es [] [] _ (HXA4.out.keep0 hx5) (HA4.out.keep0 hx5) HXR.out HR.out; rw [sameB_true HXM.out] at cs; clear hx5 cR)
        | (refine wpList_load_row_g (by first | rfl | (simp [Region.wanted, yielded]; done)) 36 _ rfl w3.heap.size 0 rfl x.cells _ HQR5.out Try.underlying36 rfl (by rw [mcells_len]; kernel_rfl) ?_)
        | (refine wpList_load_row_g (by first | rfl | (simp [Region.wanted, yielded]; done)) 36 _ rfl P 0 rfl nn.cells _ HR5.out Try.underlying36 rfl (by rw [mcells_len]; kernel_rfl) ?_)
        | (go_at_call 28; (with_reducible refine cs.mono ?_); rintro e w6 ⟨rfl, hx6⟩; have HX6 := Hid.of (HX5.out.then0 hx6); clear hx6 cs))
      go_ret
      exact ⟨rfl, HX6.out⟩
  · go_upto_region 4 with (first
      | (go_at_call 19; (with_reducible refine ch.mono ?_); rintro e w1 ⟨rfl, hx1⟩; have HX1 := Hid.of hx1; clear hx1 ch)
      | (refine wpList_new_row rfl rfl 36 _ _ _ rfl rfl rfl rfl _ al_msg lim0.cells rfl (by kernel_rfl) (mcells_one _) rfl rfl ?_; obtain ⟨W, hW⟩ : ∃ W, W = w1.alloc (.cells lim0.cells.toArray 36) := ⟨_, rfl⟩; obtain ⟨P, hP⟩ : ∃ P, P = w1.heap.size := ⟨_, rfl⟩; have HB := Hid.of (by rw [hW, hP]; exact Blk.new _ _ _ : Blk W P 36 lim0.cells); have HXW := Hid.of (by rw [hW]; exact HX1.out.alloc _ : Ext [] w W); have hPw : w.heap.size ≤ P := (by rw [hP]; exact HX1.out.size); rw [← hW, ← hP]; clear hW hP))
    go_upto_block 0 with fail
    go_cut [] (fun wx => LimCut w P false wx)
    case first =>
      rcases (show k = 0 ∨ k = 1 ∨ k = 2 ∨ k = 3 ∨ k = 4 ∨ k = 5 ∨ k = 6 ∨ k = 7 by omega) with rfl | rfl | rfl | rfl | rfl | rfl | rfl | rfl
      · have hPl := HB.out.lt
        have hBx : Blk W P 36 lim0.cells := HB.out
        have z1 : W.cell? ⟨P, 1, none⟩ = some (.int .i64 0) := hBx.c 1
        have z2 : W.frozen? ⟨P, 1, none⟩ = false := hBx.f 1
        obtain ⟨V, hV⟩ : ∃ V, V = (W.setCell ⟨P, 1, none⟩ (.int .i64 281474976710656)) := ⟨_, rfl⟩
        obtain ⟨nn, hnn⟩ : ∃ m, m = ({ lim0 with frm := 281474976710656 } : Ms) := ⟨_, rfl⟩
        have hb : Blk V P 36 nn.cells := by rw [hV]; subst hnn; exact (HB.out.set 1 (.int .i64 281474976710656))
        have hxv : Ext [P] W V := by rw [hV]; exact ((Ext.refl _ _).setCell (.inl (by simp)) _)
        have hat : MsAt V nn ([] : List En) [] := by
          subst hnn
          exact lim_at rfl rfl rfl (by unfold lim0 I64; simp only; omega) (by show 0 ≤ maxLen; unfold maxLen; omega) (by simp [En.ok, I64, maxLen]) (Rd.nil _ _)
        have hrm : decide (RightM nn ([] : List En) []) = false := decide_eq_false (by subst hnn; unfold RightM lim0 R48; simp [En.right, R48])
        have HE : Hid (LimCut w P false V) := Hid.of ⟨nn, ([] : List En), hb, hat, hrm, by simp, HXW.out.trans hxv (fun z hz => .inr (by simp at hz; omega))⟩
        have HV := Hid.of hV
        clear hnn hV hb hxv hat hrm hBx
        go_wp2
        go_meet
        rw [← HV.out]
        exact HE.out
      · have hPl := HB.out.lt
        have hBx : Blk W P 36 lim0.cells := HB.out
        have z1 : W.cell? ⟨P, 3, none⟩ = some (.int .i64 0) := hBx.c 3
        have z2 : W.frozen? ⟨P, 3, none⟩ = false := hBx.f 3
        obtain ⟨V, hV⟩ : ∃ V, V = (W.setCell ⟨P, 3, none⟩ (.int .i64 281474976710656)) := ⟨_, rfl⟩
        obtain ⟨nn, hnn⟩ : ∃ m, m = ({ lim0 with term := 281474976710656 } : Ms) := ⟨_, rfl⟩
        have hb : Blk V P 36 nn.cells := by rw [hV]; subst hnn; exact (HB.out.set 3 (.int .i64 281474976710656))
        have hxv : Ext [P] W V := by rw [hV]; exact ((Ext.refl _ _).setCell (.inl (by simp)) _)
        have hat : MsAt V nn ([] : List En) [] := by
          subst hnn
          exact lim_at rfl rfl rfl (by unfold lim0 I64; simp only; omega) (by show 0 ≤ maxLen; unfold maxLen; omega) (by simp [En.ok, I64, maxLen]) (Rd.nil _ _)
        have hrm : decide (RightM nn ([] : List En) []) = false := decide_eq_false (by subst hnn; unfold RightM lim0 R48; simp [En.right, R48])
        have HE : Hid (LimCut w P false V) := Hid.of ⟨nn, ([] : List En), hb, hat, hrm, by simp, HXW.out.trans hxv (fun z hz => .inr (by simp at hz; omega))⟩
        have HV := Hid.of hV
        clear hnn hV hb hxv hat hrm hBx
        go_wp2
        go_meet
        rw [← HV.out]
        exact HE.out
      · have hPl := HB.out.lt
        have hBx : Blk W P 36 lim0.cells := HB.out
        have z1 : W.cell? ⟨P, 12, none⟩ = some (.int .i64 0) := hBx.c 12
        have z2 : W.frozen? ⟨P, 12, none⟩ = false := hBx.f 12
        obtain ⟨V, hV⟩ : ∃ V, V = (W.setCell ⟨P, 12, none⟩ (.int .i64 281474976710656)) := ⟨_, rfl⟩
        obtain ⟨nn, hnn⟩ : ∃ m, m = ({ lim0 with lt := 281474976710656 } : Ms) := ⟨_, rfl⟩
        have hb : Blk V P 36 nn.cells := by rw [hV]; subst hnn; exact (HB.out.set 12 (.int .i64 281474976710656))
        have hxv : Ext [P] W V := by rw [hV]; exact ((Ext.refl _ _).setCell (.inl (by simp)) _)
        have hat : MsAt V nn ([] : List En) [] := by
          subst hnn
          exact lim_at rfl rfl rfl (by unfold lim0 I64; simp only; omega) (by show 0 ≤ maxLen; unfold maxLen; omega) (by simp [En.ok, I64, maxLen]) (Rd.nil _ _)
        have hrm : decide (RightM nn ([] : List En) []) = false := decide_eq_false (by subst hnn; unfold RightM lim0 R48; simp [En.right, R48])
        have HE : Hid (LimCut w P false V) := Hid.of ⟨nn, ([] : List En), hb, hat, hrm, by simp, HXW.out.trans hxv (fun z hz => .inr (by simp at hz; omega))⟩
        have HV := Hid.of hV
        clear hnn hV hb hxv hat hrm hBx
        go_wp2
        go_meet
        rw [← HV.out]
        exact HE.out
      · have hPl := HB.out.lt
        have hBx : Blk (W.alloc (.cells #[.int .i64 281474976710656, .int .i64 0, .string ⟨#[]⟩] 60)) P 36 lim0.cells := (HB.out.alloc _)
        have z1 : (W.alloc (.cells #[.int .i64 281474976710656, .int .i64 0, .string ⟨#[]⟩] 60)).cell? ⟨P, 8, none⟩ = some (.slice none 0 0) := hBx.c 8
        have z2 : (W.alloc (.cells #[.int .i64 281474976710656, .int .i64 0, .string ⟨#[]⟩] 60)).frozen? ⟨P, 8, none⟩ = false := hBx.f 8
        obtain ⟨V, hV⟩ : ∃ V, V = ((W.setCell ⟨P, 8, none⟩ (.slice (some ⟨W.heap.size, 0, none⟩) 1 1)).alloc (.cells #[.int .i64 281474976710656, .int .i64 0, .string ⟨#[]⟩] 60)) := ⟨_, rfl⟩
        obtain ⟨nn, hnn⟩ : ∃ m, m = ({ lim0 with ea := (some ⟨W.heap.size, 0, none⟩), en := 1, ec := 1 } : Ms) := ⟨_, rfl⟩
        have hb : Blk V P 36 nn.cells := by rw [hV]; subst hnn; exact ((HB.out.set 8 (.slice (some ⟨W.heap.size, 0, none⟩) 1 1)).alloc _)
        have hxv : Ext [P] W V := by rw [hV]; exact (((Ext.refl _ _).setCell (.inl (by simp)) _).alloc _)
        have hat : MsAt V nn ([⟨281474976710656, 0, []⟩] : List En) [] := by
          subst hnn
          exact lim_at rfl rfl rfl (by unfold lim0 I64; simp only; omega) (by show 0 ≤ maxLen; unfold maxLen; omega) (by simp [En.ok, I64, maxLen]) (by rw [hV]; exact Rd.litg #[.int .i64 281474976710656, .int .i64 0, .string ⟨#[]⟩] 60 3 1 rfl (by unfold maxLen; omega) (by simp only [World.size_setCell]))
        have hrm : decide (RightM nn ([⟨281474976710656, 0, []⟩] : List En) []) = false := decide_eq_false (by subst hnn; unfold RightM lim0 R48; simp [En.right, R48])
        have HE : Hid (LimCut w P false V) := Hid.of ⟨nn, ([⟨281474976710656, 0, []⟩] : List En), hb, hat, hrm, by simp, HXW.out.trans hxv (fun z hz => .inr (by simp at hz; omega))⟩
        have HV := Hid.of hV
        clear hnn hV hb hxv hat hrm hBx
        go_wp2
        go_meet
        rw [← HV.out]
        exact HE.out
      · have hmk : ∀ W : World, (Instr.makeSlice 30 (.int .i64 5) (.int .i64 5)).run Try.prog W = .ok (.slice (some ⟨W.heap.size, 0, none⟩) 5 5) (W.alloc (.cells #[.int .i64 0, .int .i64 0, str [], .int .i64 0, .int .i64 0, str [], .int .i64 0, .int .i64 0, str [], .int .i64 0, .int .i64 0, str [], .int .i64 0, .int .i64 0, str []] 60)) := fun W => by kernel_rfl
        have hPl := HB.out.lt
        have hBx : Blk (W.alloc (.cells #[.int .i64 0, .int .i64 0, str [], .int .i64 0, .int .i64 0, str [], .int .i64 0, .int .i64 0, str [], .int .i64 0, .int .i64 0, str [], .int .i64 0, .int .i64 0, str []] 60)) P 36 lim0.cells := (HB.out.alloc _)
        have z1 : (W.alloc (.cells #[.int .i64 0, .int .i64 0, str [], .int .i64 0, .int .i64 0, str [], .int .i64 0, .int .i64 0, str [], .int .i64 0, .int .i64 0, str [], .int .i64 0, .int .i64 0, str []] 60)).cell? ⟨P, 8, none⟩ = some (.slice none 0 0) := hBx.c 8
        have z2 : (W.alloc (.cells #[.int .i64 0, .int .i64 0, str [], .int .i64 0, .int .i64 0, str [], .int .i64 0, .int .i64 0, str [], .int .i64 0, .int .i64 0, str [], .int .i64 0, .int .i64 0, str []] 60)).frozen? ⟨P, 8, none⟩ = false := hBx.f 8
        obtain ⟨V, hV⟩ : ∃ V, V = ((W.setCell ⟨P, 8, none⟩ (.slice (some ⟨W.heap.size, 0, none⟩) 5 5)).alloc (.cells #[.int .i64 0, .int .i64 0, str [], .int .i64 0, .int .i64 0, str [], .int .i64 0, .int .i64 0, str [], .int .i64 0, .int .i64 0, str [], .int .i64 0, .int .i64 0, str []] 60)) := ⟨_, rfl⟩
        obtain ⟨nn, hnn⟩ : ∃ m, m = ({ lim0 with ea := (some ⟨W.heap.size, 0, none⟩), en := 5, ec := 5 } : Ms) := ⟨_, rfl⟩
        have hb : Blk V P 36 nn.cells := by rw [hV]; subst hnn; exact ((HB.out.set 8 (.slice (some ⟨W.heap.size, 0, none⟩) 5 5)).alloc _)
        have hxv : Ext [P] W V := by rw [hV]; exact (((Ext.refl _ _).setCell (.inl (by simp)) _).alloc _)
        have hat : MsAt V nn ([⟨0, 0, []⟩, ⟨0, 0, []⟩, ⟨0, 0, []⟩, ⟨0, 0, []⟩, ⟨0, 0, []⟩] : List En) [] := by
          subst hnn
          exact lim_at rfl rfl rfl (by unfold lim0 I64; simp only; omega) (by show 0 ≤ maxLen; unfold maxLen; omega) (by simp [En.ok, I64, maxLen]) (by rw [hV]; exact Rd.litg #[.int .i64 0, .int .i64 0, str [], .int .i64 0, .int .i64 0, str [], .int .i64 0, .int .i64 0, str [], .int .i64 0, .int .i64 0, str [], .int .i64 0, .int .i64 0, str []] 60 3 5 rfl (by unfold maxLen; omega) (by simp only [World.size_setCell]))
        have hrm : decide (RightM nn ([⟨0, 0, []⟩, ⟨0, 0, []⟩, ⟨0, 0, []⟩, ⟨0, 0, []⟩, ⟨0, 0, []⟩] : List En) []) = false := decide_eq_false (by subst hnn; unfold RightM lim0 R48; simp [En.right, R48])
        have HE : Hid (LimCut w P false V) := Hid.of ⟨nn, ([⟨0, 0, []⟩, ⟨0, 0, []⟩, ⟨0, 0, []⟩, ⟨0, 0, []⟩, ⟨0, 0, []⟩] : List En), hb, hat, hrm, by simp, HXW.out.trans hxv (fun z hz => .inr (by simp at hz; omega))⟩
        have HV := Hid.of hV
        clear hnn hV hb hxv hat hrm hBx
        go_wp2
        go_meet
        rw [← HV.out]
        exact HE.out
      · obtain ⟨D, hD, hDl⟩ : ∃ D : List UInt8, D = List.replicate 401 0 ∧ D.length = 401 := ⟨_, rfl, List.length_replicate⟩
        have hmk : ∀ W : World, (Instr.makeSlice 57 (.int .i64 401) (.int .i64 401)).run Try.prog W = .ok (.slice (some ⟨W.heap.size, 0, none⟩) 401 401) (W.alloc (.cells (madeCells #[.int .u8 0] 401) 5)) := fun W => HMK.out 401 (by omega) W
        have hcv := made_str W 401 (by omega)
        rw [← hD] at hcv
        clear hD
        have hPl := HB.out.lt
        have hBx : Blk (W.alloc (.cells (madeCells #[.int .u8 0] 401) 5)) P 36 lim0.cells := (HB.out.alloc _)
        have z1 : (W.alloc (.cells (madeCells #[.int .u8 0] 401) 5)).cell? ⟨P, 16, none⟩ = some (.string ByteArray.empty) := hBx.c 16
        have z2 : (W.alloc (.cells (madeCells #[.int .u8 0] 401) 5)).frozen? ⟨P, 16, none⟩ = false := hBx.f 16
        obtain ⟨V, hV⟩ : ∃ V, V = ((W.setCell ⟨P, 16, none⟩ (str D)).alloc (.cells (madeCells #[.int .u8 0] 401) 5)) := ⟨_, rfl⟩
        obtain ⟨nn, hnn⟩ : ∃ m, m = ({ lim0 with data := D } : Ms) := ⟨_, rfl⟩
        have hb : Blk V P 36 nn.cells := by rw [hV]; subst hnn; exact ((HB.out.set 16 (str D)).alloc _)
        have hxv : Ext [P] W V := by rw [hV]; exact (((Ext.refl _ _).setCell (.inl (by simp)) _).alloc _)
        have hat : MsAt V nn ([] : List En) [] := by
          subst hnn
          exact lim_at rfl rfl rfl (by unfold lim0 I64; simp only; omega) (by show D.length ≤ maxLen; unfold maxLen; omega) (by simp [En.ok, I64, maxLen]) (Rd.nil _ _)
        have hrm : decide (RightM nn ([] : List En) []) = false := decide_eq_false (by subst hnn; unfold RightM lim0 R48; simp [En.right, R48, hDl])
        have HE : Hid (LimCut w P false V) := Hid.of ⟨nn, ([] : List En), hb, hat, hrm, by simp, HXW.out.trans hxv (fun z hz => .inr (by simp at hz; omega))⟩
        have HV := Hid.of hV
        clear hnn hV hb hxv hat hrm hBx
        go_wp2
        go_meet
        rw [← HV.out]
        exact HE.out
      · obtain ⟨D, hD, hDl⟩ : ∃ D : List UInt8, D = List.replicate 489 0 ∧ D.length = 489 := ⟨_, rfl, List.length_replicate⟩
        have hmk : ∀ W : World, (Instr.makeSlice 57 (.int .i64 489) (.int .i64 489)).run Try.prog W = .ok (.slice (some ⟨W.heap.size, 0, none⟩) 489 489) (W.alloc (.cells (madeCells #[.int .u8 0] 489) 5)) := fun W => HMK.out 489 (by omega) W
        have hcv := made_str W 489 (by omega)
        rw [← hD] at hcv
        clear hD
        have hPl := HB.out.lt
        have hBx : Blk ((W.alloc (.cells (madeCells #[.int .u8 0] 489) 5)).alloc (.cells #[.int .i64 0, .int .i64 0, str D] 60)) P 36 lim0.cells := ((HB.out.alloc _).alloc _)
        have z1 : ((W.alloc (.cells (madeCells #[.int .u8 0] 489) 5)).alloc (.cells #[.int .i64 0, .int .i64 0, str D] 60)).cell? ⟨P, 8, none⟩ = some (.slice none 0 0) := hBx.c 8
        have z2 : ((W.alloc (.cells (madeCells #[.int .u8 0] 489) 5)).alloc (.cells #[.int .i64 0, .int .i64 0, str D] 60)).frozen? ⟨P, 8, none⟩ = false := hBx.f 8
        obtain ⟨V, hV⟩ : ∃ V, V = (((W.setCell ⟨P, 8, none⟩ (.slice (some ⟨W.heap.size + 1, 0, none⟩) 1 1)).alloc (.cells (madeCells #[.int .u8 0] 489) 5)).alloc (.cells #[.int .i64 0, .int .i64 0, str D] 60)) := ⟨_, rfl⟩
        obtain ⟨nn, hnn⟩ : ∃ m, m = ({ lim0 with ea := (some ⟨W.heap.size + 1, 0, none⟩), en := 1, ec := 1 } : Ms) := ⟨_, rfl⟩
        have hb : Blk V P 36 nn.cells := by rw [hV]; subst hnn; exact (((HB.out.set 8 (.slice (some ⟨W.heap.size + 1, 0, none⟩) 1 1)).alloc _).alloc _)
        have hxv : Ext [P] W V := by rw [hV]; exact ((((Ext.refl _ _).setCell (.inl (by simp)) _).alloc _).alloc _)
        have hat : MsAt V nn ([⟨0, 0, D⟩] : List En) [] := by
          subst hnn
          exact lim_at rfl rfl rfl (by unfold lim0 I64; simp only; omega) (by show 0 ≤ maxLen; unfold maxLen; omega) (by simp [En.ok, I64, maxLen]; omega) (by rw [hV]; exact Rd.litg #[.int .i64 0, .int .i64 0, str D] 60 3 1 rfl (by unfold maxLen; omega) (by simp only [World.size_alloc, World.size_setCell]))
        have hrm : decide (RightM nn ([⟨0, 0, D⟩] : List En) []) = false := decide_eq_false (by subst hnn; unfold RightM lim0 R48; simp [En.right, R48, hDl])
        have HE : Hid (LimCut w P false V) := Hid.of ⟨nn, ([⟨0, 0, D⟩] : List En), hb, hat, hrm, by simp, HXW.out.trans hxv (fun z hz => .inr (by simp at hz; omega))⟩
        have HV := Hid.of hV
        clear hnn hV hb hxv hat hrm hBx
        go_wp2
        go_meet
        rw [← HV.out]
        exact HE.out
      · have hPl := HB.out.lt
        have hBx : Blk W P 36 lim0.cells := HB.out
        have z1 : W.cell? ⟨P, 7, none⟩ = some (.int .i64 0) := hBx.c 7
        have z2 : W.frozen? ⟨P, 7, none⟩ = false := hBx.f 7
        obtain ⟨V, hV⟩ : ∃ V, V = (W.setCell ⟨P, 7, none⟩ (.int .i64 (-1))) := ⟨_, rfl⟩
        obtain ⟨nn, hnn⟩ : ∃ m, m = ({ lim0 with commit := -1 } : Ms) := ⟨_, rfl⟩
        have hb : Blk V P 36 nn.cells := by rw [hV]; subst hnn; exact (HB.out.set 7 (.int .i64 (-1)))
        have hxv : Ext [P] W V := by rw [hV]; exact ((Ext.refl _ _).setCell (.inl (by simp)) _)
        have hat : MsAt V nn ([] : List En) [] := by
          subst hnn
          exact lim_at rfl rfl rfl (by unfold lim0 I64; simp only; omega) (by show 0 ≤ maxLen; unfold maxLen; omega) (by simp [En.ok, I64, maxLen]) (Rd.nil _ _)
        have hrm : decide (RightM nn ([] : List En) []) = false := decide_eq_false (by subst hnn; unfold RightM lim0 R48; simp [En.right, R48])
        have HE : Hid (LimCut w P false V) := Hid.of ⟨nn, ([] : List En), hb, hat, hrm, by simp, HXW.out.trans hxv (fun z hz => .inr (by simp at hz; omega))⟩
        have HV := Hid.of hV
        clear hnn hV hb hxv hat hrm hBx
        go_wp2
        go_meet
        rw [← HV.out]
        exact HE.out
    case rest =>
      obtain ⟨nn, es, hb, hat, hrm, hle, hx⟩ := hcut
      have hR : ¬ RightM nn es [] := of_decide_eq_false hrm
      have HX := Hid.of hx
      have HBn := Hid.of hb
      have HRow := Hid.of hb.range
      have HAn := Hid.of hat
      have cb := bytes_any nn es [] _ hat (by omega)
      rw [if_neg hR] at cb
      have crt := right_any nn es []
      have HRD := Hid.of hrm
      have cr : ∀ w, Calls Try.prog 27 #[str []] w fun e w' => e = .returned (.tuple #[.agg Ms.zero.cells.toArray, .int .i64 2]) ∧ Ext [] w w' := fun w => (mread_all [] w (by simp)).mono (by
        rintro e w' ⟨hx, ⟨m, es, ss, hr, hse, _⟩ | ⟨_, he⟩⟩
        · have := encM_pos m es ss
          rw [← hse] at this
          exact absurd this (by simp)
        · exact ⟨he, hx⟩)
      clear hb hat hrm hx hR
      go_wp2_with (first
        | (refine wpList_load_mid rfl 36 _ rfl P 0 rfl nn.cells _ HRow.out Try.underlying36 rfl (by rw [mcells_len]; kernel_rfl) ?_)
        | (go_at_call 21; (with_reducible refine cb.mono ?_); rintro e w2 ⟨rfl, hx2⟩; have HX2 := Hid.of (HX.out.then0 hx2); have HB2 := Hid.of (HBn.out.keep hx2 (by simp)); have HA2 := Hid.of (HAn.out.keep0 hx2); clear hx2 cb)
        | (go_at_call 27; (with_reducible refine (cr _).mono ?_); rintro e w3 ⟨rfl, hx3⟩; have HX3 := Hid.of (HX2.out.then0 hx3); have HB3 := Hid.of (HB2.out.keep hx3 (by simp)); have HA3 := Hid.of (HA2.out.keep0 hx3); clear hx3 cr)
        | (refine wpList_new_row rfl rfl 36 _ _ _ rfl rfl rfl rfl _ al_msg Ms.zero.cells rfl (by kernel_rfl) (mcells_one _) rfl rfl ?_; have x4 : Ext [] w3 (w3.alloc (.cells Ms.zero.cells.toArray 36)) := (Ext.refl [] w3).alloc _; have HX4 := Hid.of (HX3.out.then0 x4); have HA4 := Hid.of (HA3.out.keep0 x4); have HR4 := Hid.of (HB3.out.keep x4 (by simp)).range; have cR := crt _ HA4.out (by omega); rw [HRD.out] at cR; clear x4 crt)
        | (refine wpList_load_mid rfl 36 _ rfl P 0 rfl nn.cells _ HR4.out Try.underlying36 rfl (by rw [mcells_len]; kernel_rfl) ?_)
        | (go_at_call 22; (with_reducible refine cR.mono ?_); rintro e w5 ⟨rfl, hx5⟩; have HX5 := Hid.of (HX4.out.then0 hx5); clear hx5 cR))
      go_ret
      exact ⟨rfl, HX5.out⟩
end Go.Proofs.Ytaekkkcgoegllaa
