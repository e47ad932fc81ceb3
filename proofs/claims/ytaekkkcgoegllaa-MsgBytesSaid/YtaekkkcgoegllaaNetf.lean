/- Package net: Net's Len, Now, Pass, Clear. -/
import Derived.Test.YtaekkkcgoegllaaNete
import Derived.Test.YtaekkkcgoegllaaRowb
namespace Go.Proofs.Ytaekkkcgoegllaa
open Go.RowKit
set_option linter.unusedVariables false
set_option linter.unusedSimpArgs false

/-- A Net: A is on its way (in whatever order), its time, its last number. -/
def NetS (w : World) (b : Nat) (v : Value) (now seq : Int) (A : List Lt) : Prop := ∃ L, NetAt w b v now seq L ∧ Heap ltL L ∧ L.Perm A
theorem NetS.keep {w w' : World} {b : Nat} {v : Value} {now seq : Int} {A : List Lt} {F : List Nat} (h : NetS w b v now seq A) (hx : Ext F w w') (hb : b ∉ F) (hv : ∀ k ∈ vblocks v, k ∉ F) : NetS w' b v now seq A := by
  obtain ⟨L, h1, h2, h3⟩ := h
  exact ⟨L, h1.keep hx hb hv, h2, h3⟩
theorem NetS.keep0 {w w' : World} {b : Nat} {v : Value} {now seq : Int} {A : List Lt} (h : NetS w b v now seq A) (hx : Ext [] w w') : NetS w' b v now seq A := h.keep hx (by simp) (by simp)
def NetR (w w' : World) (b : Nat) (v : Value) (now seq : Int) (A : List Lt) : Prop :=
  Ext (b :: vblocks v) w w' ∧ ∃ v', NetS w' b v' now seq A ∧ ∀ k ∈ vblocks v', k ∈ vblocks v ∨ w.heap.size ≤ k
theorem NetR.refl {w : World} {b : Nat} {v : Value} {now seq : Int} {A : List Lt} (h : NetS w b v now seq A) : NetR w w b v now seq A := ⟨Ext.refl _ _, v, h, fun k hk => .inl hk⟩
theorem NetR.post {w w' w'' : World} {b : Nat} {v : Value} {now seq : Int} {A : List Lt} (h : NetR w w' b v now seq A) (hx : Ext [] w' w'') : NetR w w'' b v now seq A := by
  obtain ⟨h1, v', h2, h3⟩ := h
  exact ⟨h1.trans hx (by simp), v', h2.keep0 hx, h3⟩
theorem NetR.pre {w0 w w' : World} {b : Nat} {v : Value} {now seq : Int} {A : List Lt} (h : NetR w w' b v now seq A) (hx : Ext [] w0 w) : NetR w0 w' b v now seq A := by
  obtain ⟨h1, v', h2, h3⟩ := h
  have := hx.size
  exact ⟨(hx.mono (by simp)).trans h1 (fun k hk => .inl hk), v', h2, fun k hk => (h3 k hk).imp_right (fun h => by omega)⟩
theorem NetR.trans {w w1 w2 : World} {b : Nat} {v v1 : Value} {now seq : Int} {A : List Lt} (hx : Ext (b :: vblocks v) w w1) (hv : ∀ k ∈ vblocks v1, k ∈ vblocks v ∨ w.heap.size ≤ k) (h : NetR w1 w2 b v1 now seq A) : NetR w w2 b v now seq A := by
  obtain ⟨h1, v', h2, h3⟩ := h
  have := hx.size
  refine ⟨hx.trans h1 fun k hk => ?_, v', h2, fun k hk => ?_⟩
  · rcases List.mem_cons.1 hk with rfl | hk
    · exact .inl (by simp)
    · exact (hv k hk).imp_left fun h => List.mem_cons_of_mem _ h
  · rcases h3 k hk with h | h
    · exact hv k h
    · exact .inr (by omega)
theorem NetTo.r {w w' : World} {b : Nat} {v : Value} {now seq : Int} {L A : List Lt} (h : NetTo w w' b v now seq L) (hh : Heap ltL L) (hp : L.Perm A) : NetR w w' b v now seq A := by
  obtain ⟨h1, v', h2, h3⟩ := h
  exact ⟨h1, v', ⟨L, h2, hh, hp⟩, h3⟩

theorem nlen_nil (w : World) : Calls Try.prog 14 #[.pointer none] w fun e w' => e = .returned (.int .i64 0) ∧ w = w' := by
  go_enter Try.func14, Try.ntmps14
  go_wp2
  go_ret
  exact ⟨rfl, rfl⟩
theorem nlen_any {w : World} {b : Nat} {v : Value} {now seq : Int} {A : List Lt} (h : NetS w b v now seq A) : Calls Try.prog 14 #[.pointer (some ⟨b, 0, none⟩)] w fun e w' => e = .returned (.int .i64 (A.length : Int)) ∧ w = w' := by
  obtain ⟨L, h1, h2, h3⟩ := h
  obtain ⟨c0, c1, c2⟩ := h1.c
  obtain ⟨a, c, rfl⟩ := h1.form
  rw [← h3.length_eq]
  clear h1 h2 h3
  go_enter Try.func14, Try.ntmps14
  go_wp2
  go_ret
  exact ⟨rfl, rfl⟩
theorem nnow_nil (w : World) : Calls Try.prog 18 #[.pointer none] w fun e w' => e = .returned (.int .i64 0) ∧ w = w' := by
  go_enter Try.func18, Try.ntmps18
  go_wp2
  go_ret
  exact ⟨rfl, rfl⟩
theorem nnow_any {w : World} {b : Nat} {v : Value} {now seq : Int} {A : List Lt} (h : NetS w b v now seq A) : Calls Try.prog 18 #[.pointer (some ⟨b, 0, none⟩)] w fun e w' => e = .returned (.int .i64 now) ∧ w = w' := by
  obtain ⟨L, h1, h2, h3⟩ := h
  obtain ⟨c0, c1, c2⟩ := h1.c
  clear h1 h2 h3
  go_enter Try.func18, Try.ntmps18
  go_wp2
  go_ret
  exact ⟨rfl, rfl⟩
theorem npass_nil (w : World) : Calls Try.prog 16 #[.pointer none] w fun e w' => e = .returned (.tuple #[]) ∧ w = w' := by
  go_enter Try.func16, Try.ntmps16
  go_wp2
  go_end0
  exact ⟨rfl, rfl⟩
theorem npass_any {w : World} {b : Nat} {v : Value} {now seq : Int} {A : List Lt} (h : NetS w b v now seq A) (hn : 0 ≤ now ∧ now < 9223372036854775807) : Calls Try.prog 16 #[.pointer (some ⟨b, 0, none⟩)] w fun e w' => e = .returned (.tuple #[]) ∧ Ext [b] w w' ∧ NetS w' b v (now + 1) seq A := by
  obtain ⟨L, h1, h2, h3⟩ := h
  obtain ⟨c0, c1, c2⟩ := h1.c
  have bl := h1.blk.lt
  have bf := h1.blk.f 1
  obtain ⟨n0, n1⟩ := hn
  have hx : Ext [b] w (w.setCell ⟨b, 1, none⟩ (.int .i64 (now + 1))) := (Ext.refl _ _).setCell (.inl (by simp)) _
  have hF := Hid.of (show Ext [b] w (w.setCell ⟨b, 1, none⟩ (.int .i64 (now + 1))) ∧ NetS (w.setCell ⟨b, 1, none⟩ (.int .i64 (now + 1))) b v (now + 1) seq A from
    ⟨hx, L, ⟨h1.blk.set 1 _, h1.own.keep hx (fun k hk => by simp [h1.sep k hk]), h1.sep⟩, h2, h3⟩)
  clear h1 h2 h3 hx
  go_enter Try.func16, Try.ntmps16
  go_wp2
  go_end0
  exact ⟨rfl, hF.out⟩
theorem nclear_nil (w : World) : Calls Try.prog 17 #[.pointer none] w fun e w' => e = .returned (.tuple #[]) ∧ w = w' := by
  go_enter Try.func17, Try.ntmps17
  go_wp2
  go_end0
  exact ⟨rfl, rfl⟩
theorem nclear_any {w : World} {b : Nat} {v : Value} {now seq : Int} {A : List Lt} (h : NetS w b v now seq A) : Calls Try.prog 17 #[.pointer (some ⟨b, 0, none⟩)] w fun e w' => e = .returned (.tuple #[]) ∧ Ext [b] w w' ∧ NetS w' b (.slice none 0 0) now seq [] := by
  obtain ⟨L, h1, h2, h3⟩ := h
  obtain ⟨c0, c1, c2⟩ := h1.c
  have bl := h1.blk.lt
  have bf := h1.blk.f 0
  have hx : Ext [b] w (w.setCell ⟨b, 0, none⟩ (.slice none 0 0)) := (Ext.refl _ _).setCell (.inl (by simp)) _
  have hF := Hid.of (show Ext [b] w (w.setCell ⟨b, 0, none⟩ (.slice none 0 0)) ∧ NetS (w.setCell ⟨b, 0, none⟩ (.slice none 0 0)) b (.slice none 0 0) now seq [] from
    ⟨hx, [], ⟨h1.blk.set 0 _, Own.nil _ _ _, by simp [vblocks]⟩, fun k h0 hk => by simp at hk, List.Perm.refl _⟩)
  clear h1 h2 h3 hx
  go_enter Try.func17, Try.ntmps17
  go_wp2
  go_end0
  exact ⟨rfl, hF.out⟩
end Go.Proofs.Ytaekkkcgoegllaa
