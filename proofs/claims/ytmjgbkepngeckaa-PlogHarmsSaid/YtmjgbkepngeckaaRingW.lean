/- Layer 6's statements: a world's list of entries. -/
import Derived.Test.YtmjgbkepngeckaaShows
import Derived.Test.YtmjgbkepngeckaaAppFull
import Derived.Test.YtmjgbkepngeckaaRegMid
namespace Go.Proofs.Ytmjgbkepngeckaa
open Go.RowKit
set_option linter.unusedVariables false
set_option linter.unusedSimpArgs false

theorem map_add0 (a : Option Addr) : Option.map (fun x => x.add 0) a = a := by cases a <;> simp [Addr.add]
theorem el_ents : Elem Try.prog 33 37 (.agg #[.int .i64 0, .int .i64 0, .string ByteArray.empty]) 3 32 := Elem.mk' Try.underlying33 rfl (by kernel_rfl)
section
variable {w0 w : World} {wq b q : Nat} {first : Int} {va vm : Value} {all : List Ent} {O : List Nat}
theorem St.addV (h : St w0 w wq b q first va vm all O) {w' : World} (hx : Ext [] w w') (v : Value) (hv : ∀ z ∈ vblocks v, w.heap.size ≤ z ∧ z < w'.heap.size) : St w0 w' wq b q first va vm all (vblocks v ++ O) := by
  have hc : vblocks v = [] ∨ ∃ z, vblocks v = [z] := by
    unfold vblocks
    split
    · exact .inr ⟨_, rfl⟩
    all_goals first | exact .inl rfl | exact .inr ⟨_, rfl⟩
  rcases hc with hc | ⟨z, hc⟩
  · rw [hc]; exact h.keep hx
  · rw [hc] at hv ⊢
    obtain ⟨h1, h2⟩ := hv z (by simp)
    exact h.add hx z h1 h2
theorem St.setCells (h : St w0 w wq b q first va vm all O) (va' : Value) : St w0 (w.setCell ⟨wq, 3, none⟩ va') wq b q first va' vm all O ∧ Kept O w (w.setCell ⟨wq, 3, none⟩ va') :=
  h.set ((Ext.refl [wq] w).setCell (.inl (by simp)) _) (Blk.set h.blk 3 va') rfl
theorem St.setMay (h : St w0 w wq b q first va vm all O) (vm' : Value) : St w0 (w.setCell ⟨wq, 4, none⟩ vm') wq b q first va vm' all O ∧ Kept O w (w.setCell ⟨wq, 4, none⟩ vm') :=
  h.set ((Ext.refl [wq] w).setCell (.inl (by simp)) _) (Blk.set h.blk 4 vm') rfl
end
/-- A world and its list of entries. -/
def RSt (w0 w : World) (wq b q : Nat) (first : Int) (vm : Value) (all : List Ent) (O : List Nat) (a : Option Addr) (cap : Nat) : Prop :=
  St w0 w wq b q first (.slice a all.length cap) vm all (vblocks (.slice a all.length cap) ++ O) ∧ Rd w 3 (.slice a all.length cap) all.length (all.flatMap Ent.cells)
section
variable {w0 w : World} {wq b q : Nat} {first : Int} {vm : Value} {all : List Ent} {O : List Nat} {a : Option Addr} {cap : Nat}
theorem RSt.keep {w' : World} (h : RSt w0 w wq b q first vm all O a cap) (hx : Ext [] w w') : RSt w0 w' wq b q first vm all O a cap := ⟨h.1.keep hx, h.2.keep hx (by simp)⟩
theorem RSt.shows (h : RSt w0 w wq b q first vm all O a cap) : Calls Try.prog 23 #[.pointer (some ⟨wq, 0, none⟩)] w fun e w' => e = .returned (.bool true) ∧ Ext [] w w' := shows_c h.1 h.2
theorem RSt.sub {O' : List Nat} (h : RSt w0 w wq b q first vm all O a cap) (hs : ∀ z ∈ O', z ∈ O) : RSt w0 w wq b q first vm all O' a cap :=
  ⟨h.1.sub (fun z hz => by rw [List.mem_append] at hz ⊢; exact hz.imp id (hs z)), h.2⟩
/-- The list's variable written: a new list, its row fresh. -/
theorem St.fresh {w1 : World} {va : Value} (h : St w0 w1 wq b q first va vm all O) {a' : Option Addr} {n cap' : Nat} {w' : World} (hx : Ext [] w1 w') (hR : Rd w' 3 (.slice a' n cap') n (all.flatMap Ent.cells)) (hn : all.length = n) (h0 : 0 < n) (hz : ∀ z ∈ vblocks (.slice a' n cap'), w1.heap.size ≤ z) :
    RSt w0 (w'.setCell ⟨wq, 3, none⟩ (.slice a' n cap')) wq b q first vm all O a' cap' ∧ Kept O w' (w'.setCell ⟨wq, 3, none⟩ (.slice a' n cap')) := by
  subst hn
  have hlt := hR.blt (by omega)
  have h2 := h.addV hx (.slice a' all.length cap') (fun z hz2 => ⟨hz z hz2, hlt z hz2⟩)
  have h3 := h2.setCells (.slice a' all.length cap')
  have hq := h.new0
  refine ⟨⟨h3.1, hR.keep ((Ext.refl [wq] w').setCell (.inl (by simp)) _) (fun k hk hm => ?_)⟩, h3.2.sub (fun z hz => by simp [hz])⟩
  have := hz k hk
  simp at hm
  omega
end
end Go.Proofs.Ytmjgbkepngeckaa
