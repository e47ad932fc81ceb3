/- Package net: letters, the methods of the heap's interface. -/
import Derived.Test.YtaekkkcgoegllaaNetPlain
import Derived.Test.YtaekkkcgoegllaaBaseb
import Derived.Test.YtaekkkcgoegllaaHeld
import Derived.Deep.RegionHeld3
import Derived.Deep.MidRow
import Derived.Deep.QuietTactic
import Derived.BigQuiet
import Derived.IntWalk
import Derived.Shelf.Abstract
namespace Go.Proofs.Ytaekkkcgoegllaa
open Go.RowKit
set_option linter.unusedVariables false
set_option linter.unusedSimpArgs false

structure Ms where
  kind : Int
  frm : Int
  too : Int
  term : Int
  index : Int
  logT : Int
  last : Int
  commit : Int
  ea : Option Addr
  en : Nat
  ec : Nat
  ok : Bool
  state : Int
  li : Int
  lt : Int
  lb : Int
  sa : Option Addr
  sn : Nat
  sc : Nat
  part : Int
  data : List UInt8
def Ms.cells (m : Ms) : List Value := [.int .i64 m.kind, .int .i64 m.frm, .int .i64 m.too, .int .i64 m.term, .int .i64 m.index, .int .i64 m.logT, .int .i64 m.last, .int .i64 m.commit, .slice m.ea m.en m.ec, .bool m.ok, .int .i64 m.state, .int .i64 m.li, .int .i64 m.lt, .int .i64 m.lb, .slice m.sa m.sn m.sc, .int .i64 m.part, str m.data]
theorem mcells_len (m : Ms) : m.cells.length = 17 := rfl
structure Lt where
  due : Int
  seq : Int
  m : Ms
def Lt.cells (l : Lt) : List Value := .int .i64 l.due :: .int .i64 l.seq :: l.m.cells
theorem lcells_len (l : Lt) : l.cells.length = 19 := rfl
theorem lcells_one (l : Lt) : ∀ v ∈ l.cells, v.oneCell' = true := by
  intro v hv
  simp only [Lt.cells, Ms.cells, List.mem_cons, List.not_mem_nil, or_false] at hv
  rcases hv with rfl | rfl | rfl | rfl | rfl | rfl | rfl | rfl | rfl | rfl | rfl | rfl | rfl | rfl | rfl | rfl | rfl | rfl | rfl <;> rfl
def ltL (a b : Lt) : Bool := if a.due = b.due then decide (a.seq < b.seq) else decide (a.due < b.due)
theorem ltL_ord : Ord ltL := by
  refine ⟨fun a => by simp [ltL], fun a b c h1 h2 => ?_, fun a b h => ?_⟩
  · unfold ltL at *
    split at h1 <;> split at h2 <;> split <;> simp at * <;> omega
  · unfold ltL at *
    split at h <;> split <;> simp at * <;> omega
def lets (L : List Lt) : List Value := L.flatMap Lt.cells
theorem lets_len (L : List Lt) : (lets L).length = L.length * 19 := flatMap_len _ 19 lcells_len L

theorem Own.setCells {e : TypeId} {size g off cap n : Nat} : ∀ (vs : List Value) (j : Nat) (w : World) (xs : List Value), Own w e size (.slice (some ⟨g, off, none⟩) n cap) n xs → j + vs.length ≤ n * size →
    Own (w.setCells g (off + j) vs) e size (.slice (some ⟨g, off, none⟩) n cap) n (xs.take j ++ vs ++ xs.drop (j + vs.length))
  | [], j, w, xs, h, _ => by simpa [World.setCells] using h
  | v :: r, j, w, xs, h, hl => by
    simp only [List.length_cons] at hl
    have h1 := h.store j v (by omega)
    have h2 := Own.setCells r (j + 1) _ _ h1 (by omega)
    rw [World.setCells]
    have hx := h.1
    have e : (xs.set j v).take (j + 1) ++ r ++ (xs.set j v).drop (j + 1 + r.length) = xs.take j ++ v :: r ++ xs.drop (j + (v :: r).length) := by
      rw [List.take_succ_eq_append_getElem (by simp; omega), List.drop_set, if_pos (by omega), List.take_set_of_le (by omega)]
      simp [Nat.add_assoc, Nat.add_comm 1]
    rw [← e]
    exact h2
theorem lets_set (L : List Lt) (i : Nat) (a : Lt) (h : i < L.length) : lets (L.set i a) = (lets L).take (i * 19) ++ a.cells ++ (lets L).drop (i * 19 + a.cells.length) := by
  have h0 : L = L.take i ++ L[i] :: L.drop (i + 1) := by
    rw [← List.drop_eq_getElem_cons h, List.take_append_drop]
  have hl : (lets (L.take i)).length = i * 19 := by rw [lets_len, List.length_take]; omega
  have e1 : lets L = lets (L.take i) ++ (L[i].cells ++ lets (L.drop (i + 1))) := by
    refine (congrArg lets h0).trans ?_
    unfold lets
    rw [List.flatMap_append, List.flatMap_cons]
  rw [e1, List.set_eq_take_append_cons_drop, if_pos h]
  have e2 : i * 19 + a.cells.length = (lets (L.take i)).length + (L[i].cells).length := by rw [hl, lcells_len, lcells_len]
  have e3 : ∀ A B C : List Value, (A ++ (B ++ C)).drop (A.length + B.length) = C := fun A B C => by rw [← List.append_assoc, ← List.length_append, List.drop_left]
  rw [e2, ← hl, List.take_left, e3]
  simp [lets]
theorem Own.range {w : World} {e : TypeId} {g off cap n : Nat} {L : List Lt} (h : Own w e 19 (.slice (some ⟨g, off, none⟩) n cap) n (lets L)) (i : Nat) (hi : i < L.length) : w.rangeAt g (off + i * 19) L[i].cells ∧ w.there g (off + i * 19) 19 := by
  have hn : n = L.length := by have := h.1; rw [lets_len] at this; omega
  have hc : ∀ j, j < 19 → w.cell? ⟨g, off + i * 19 + j, none⟩ = L[i].cells[j]? := fun j hj => by
    rw [Nat.add_assoc, h.cell (i * 19 + j) (by omega), lets, flatMap_get _ 19 lcells_len _ i j hi hj]
  refine ⟨fun j v hv => ?_, fun j hj => ⟨?_, ?_⟩⟩
  · have : j < 19 := by have := (List.getElem?_eq_some_iff.1 hv).1; rw [lcells_len] at this; exact this
    rw [hc j this, hv]
  · rw [hc j hj, List.getElem?_eq_getElem (by rw [lcells_len]; exact hj)]; rfl
  · rw [Nat.add_assoc]; exact h.frozen (i * 19 + j) (by omega)
theorem Own.swap {w : World} {e : TypeId} {g off cap n : Nat} {L : List Lt} (h : Own w e 19 (.slice (some ⟨g, off, none⟩) n cap) n (lets L)) (i j : Nat) (hi : i < L.length) (hj : j < L.length) :
    Own ((w.setCells g (off + i * 19) L[j].cells).setCells g (off + j * 19) L[i].cells) e 19 (.slice (some ⟨g, off, none⟩) n cap) n (lets (swp L i j)) := by
  have hn : n = L.length := by have := h.1; rw [lets_len] at this; omega
  have h1 := Own.setCells L[j].cells (i * 19) w _ h (by rw [lcells_len]; omega)
  rw [← lets_set L i L[j] hi] at h1
  have h2 := Own.setCells L[i].cells (j * 19) _ _ h1 (by rw [lcells_len]; omega)
  rw [← lets_set _ j L[i] (by simpa using hj)] at h2
  rw [swp_eq L i j hi hj]
  exact h2
theorem Ext.setCells {F : List Nat} {a w : World} (h : Ext F a w) {g : Nat} (hg : g ∈ F ∨ a.heap.size ≤ g) : ∀ (vs : List Value) (o : Nat), Ext F a (w.setCells g o vs) := by
  intro vs
  induction vs generalizing w with
  | nil => intro o; exact h
  | cons v r ih => intro o; rw [World.setCells]; exact ih (h.setCell (p := ⟨g, o, none⟩) hg v) (o + 1)

/-- The interface's methods at a pointer to letters. -/
theorem wrap_ok (ts : Array TypeId) (t : TypeId) (p : Addr) (x y : String) : Builtin.ssaWrapNilChk_ ts t #[.pointer (some p), strVal x, strVal y] = pure (.pointer (some p)) := rfl
theorem met_val {P : Program} {T t : TypeId} {n : String} {f : FuncId} (hi : (P.info? T).bind (fun ti => (ti.methods.find? (·.name == n)).map fun m => (m.path, m.func)) = some (#[], some (f, false))) (hu : P.underlying T = some (.pointer t))
    (p : Addr) (v : Value) (w : World) (hl : Sem.run P (loadVar t p) w = .ok v w) : Sem.run P (method (P.types.size + 100) T (.pointer (some p)) n) w = .ok (f, v) w := by
  cases h1 : P.info? T with
  | none => rw [h1] at hi; cases hi
  | some ti =>
    rw [h1] at hi
    simp only [Option.bind_some] at hi
    cases h2 : ti.methods.find? (·.name == n) with
    | none => rw [h2] at hi; cases hi
    | some m =>
      rw [h2] at hi
      simp only [Option.map_some, Option.some.injEq, Prod.mk.injEq] at hi
      obtain ⟨hp, hf⟩ := hi
      unfold method
      simp [typeInfo, h1, h2, hp, hf, follow, receiverAt, run_underlying hu, Place.get, wrap_ok, hl, asAddr]
theorem met_len (p : Addr) (v : Value) (w : World) (h : w.cell? p = some v) : Sem.run Try.prog (method (Try.prog.types.size + 100) 72 (.pointer (some p)) "Len") w = .ok (63, v) w :=
  met_val (by kernel_rfl) Try.underlying72 p v w (by simp [loadVar, go_sem, h])
theorem met_less (p : Addr) (v : Value) (w : World) (h : w.cell? p = some v) : Sem.run Try.prog (method (Try.prog.types.size + 100) 72 (.pointer (some p)) "Less") w = .ok (64, v) w :=
  met_val (by kernel_rfl) Try.underlying72 p v w (by simp [loadVar, go_sem, h])
theorem met_swap (p : Addr) (v : Value) (w : World) (h : w.cell? p = some v) : Sem.run Try.prog (method (Try.prog.types.size + 100) 72 (.pointer (some p)) "Swap") w = .ok (65, v) w :=
  met_val (by kernel_rfl) Try.underlying72 p v w (by simp [loadVar, go_sem, h])
theorem met_push (p : Value) (w : World) : Sem.run Try.prog (method (Try.prog.types.size + 100) 72 p "Push") w = .ok (69, p) w := by
  kernel_rfl
theorem met_pop (p : Value) (w : World) : Sem.run Try.prog (method (Try.prog.types.size + 100) 72 p "Pop") w = .ok (68, p) w := by
  kernel_rfl
theorem ent_len (args : Array Value) (w : World) : (callFunc 63 args).run Try.prog w = .ok (.enter 63 args) w := enters_of Try.func63 (by kernel_rfl) rfl args w
theorem ent_less (args : Array Value) (w : World) : (callFunc 64 args).run Try.prog w = .ok (.enter 64 args) w := enters_of Try.func64 (by kernel_rfl) rfl args w
theorem ent_swap (args : Array Value) (w : World) : (callFunc 65 args).run Try.prog w = .ok (.enter 65 args) w := enters_of Try.func65 (by kernel_rfl) rfl args w
theorem ent_push (args : Array Value) (w : World) : (callFunc 69 args).run Try.prog w = .ok (.enter 69 args) w := enters_of Try.func69 (by kernel_rfl) rfl args w
theorem ent_pop (args : Array Value) (w : World) : (callFunc 68 args).run Try.prog w = .ok (.enter 68 args) w := enters_of Try.func68 (by kernel_rfl) rfl args w
end Go.Proofs.Ytaekkkcgoegllaa
