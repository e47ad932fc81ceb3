/- How arguments that came in read: a slice's cells, element by element. -/
import Derived.Test.YtmjgbkepngeckaaBaseb
import Derived.ProofKit
import Derived.OpenShut
import Derived.ShutString
import Derived.ChangeOld
import Derived.Deep.Strs
import Derived.Lib.SmallJoins
namespace Go.Proofs.Ytmjgbkepngeckaa
open Go.ChangeShapes Go.WideShapes Go.ChangeAt Go.RowKit
set_option linter.unusedVariables false

theorem Try.own : ownKnob Try.prog.godebug = none := by kernel_rfl
theorem Try.laidOut : laidOutB Try.prog = true := by kernel_rfl

section
variable {H : Type} {enc : TypeId × Value → H} {P : Program} {w : World} {spare : Nat → Bool} {held : Bool}

/-- A slice that came in: its cells, and that each element's cells read as its type. -/
theorem rd_of_trod {t e : TypeId} {sz : Nat} {a : Option Addr} {len cap : Nat} {d : DataW H} {ps : List MemPlace} (ht : P.underlying t = some (.slice e)) (hc : P.cellsOf e = sz)
    (h : DataW.Trod enc P w 0 spare held t (.slice a len cap) d ps) :
    ∃ xs, Rd w sz (.slice a len cap) len xs ∧ ∀ i, i < len → ∃ m y, DataW.trod enc P w 0 spare held m e ((xs.drop (i * sz)).take sz) = some y := by
  obtain ⟨fuel, hf⟩ := h
  rcases DataW.trod_slice ht hf with ⟨h0, _⟩ | ⟨a', len', cap', elems, rest, n, _, hcs, _, hb, hl, hm, hlen, hel, hsp, hns⟩
  · simp [Value.cells] at h0
    obtain ⟨rfl, rfl, rfl⟩ := h0
    exact ⟨[], Rd.nil w sz, fun i hi => absurd hi (by omega)⟩
  · simp [Value.cells] at hcs
    obtain ⟨rfl, rfl, rfl⟩ := hcs
    subst hc
    have each : ∀ i, i < len → ∃ cs, cs.length = P.cellsOf e ∧ (∀ r, r < P.cellsOf e → w.cell? (a'.add (i * P.cellsOf e + r)) = cs[r]?) ∧ ∃ y, DataW.trod enc P w 0 spare held n e cs = some y := by
      intro i hi
      have h1 := hel i hi
      rw [List.getElem?_eq_getElem (by omega), Option.bind_eq_some_iff] at h1
      obtain ⟨cs, h2, h3⟩ := h1
      obtain ⟨_, h4, h5⟩ := World.cells?_some h2
      exact ⟨cs, h4, fun r hr => by rw [← Addr.add_add]; exact h5 r hr, _, h3⟩
    have key : ∀ k, k ≤ len → ∃ xs : List Value, xs.length = k * P.cellsOf e ∧ (∀ j u, xs[j]? = some u → w.cell? (a'.add j) = some u) ∧
        ∀ i, i < k → ∃ m y, DataW.trod enc P w 0 spare held m e ((xs.drop (i * P.cellsOf e)).take (P.cellsOf e)) = some y := by
      intro k
      induction k with
      | zero => intro _; exact ⟨[], by simp, by simp, fun i hi => absurd hi (by omega)⟩
      | succ k ih =>
        intro hk
        obtain ⟨xs, h1, h2, h3⟩ := ih (by omega)
        obtain ⟨cs, h4, h5, y, h6⟩ := each k (by omega)
        refine ⟨xs ++ cs, by rw [List.length_append, h1, h4, Nat.add_mul, Nat.one_mul], fun j u hu => ?_, fun i hi => ?_⟩
        · by_cases hj : j < xs.length
          · rw [List.getElem?_append_left hj] at hu
            exact h2 j u hu
          · rw [List.getElem?_append_right (by omega)] at hu
            have hr : j - xs.length < P.cellsOf e := by rw [← h4]; exact (List.getElem?_eq_some_iff.1 hu).1
            have := h5 (j - xs.length) hr
            rw [← h1, show xs.length + (j - xs.length) = j by omega] at this
            rw [this, hu]
        · by_cases hik : i < k
          · have hle : (i + 1) * P.cellsOf e ≤ k * P.cellsOf e := Nat.mul_le_mul_right _ hik
            rw [Nat.add_mul, Nat.one_mul] at hle
            rw [List.drop_append_of_le_length (by omega), List.take_append_of_le_length (by rw [List.length_drop]; omega)]
            exact h3 i hik
          · have : i = k := by omega
            subst this
            rw [← h1, List.drop_left, List.take_of_length_le (by omega)]
            exact ⟨n, y, h6⟩
    obtain ⟨xs, h1, h2, h3⟩ := key len (Nat.le_refl _)
    refine ⟨xs, ⟨h1, some a', cap, rfl, hl, hm, (fun h => by cases h), fun g hg => ?_⟩, h3⟩
    cases hg
    exact h2

/-- Cells in pieces of one size, each the cells of a thing. -/
theorem pieces {α : Type} (f : α → List Value) (ok : α → Prop) (sz : Nat) : ∀ (n : Nat) (xs : List Value), xs.length = n * sz → (∀ i, i < n → ∃ p, (xs.drop (i * sz)).take sz = f p ∧ ok p) →
    ∃ l : List α, l.length = n ∧ xs = l.flatMap f ∧ ∀ p ∈ l, ok p := by
  intro n
  induction n with
  | zero => intro xs h _; exact ⟨[], rfl, by simpa using h, by simp⟩
  | succ n ih =>
    intro xs h hp
    obtain ⟨p, h1, h2⟩ := hp 0 (by omega)
    rw [Nat.zero_mul, List.drop_zero] at h1
    obtain ⟨l, h3, h4, h5⟩ := ih (xs.drop sz) (by rw [List.length_drop, h, Nat.add_mul]; omega) (fun i hi => by
      obtain ⟨q, h6, h7⟩ := hp (i + 1) (by omega)
      refine ⟨q, ?_, h7⟩
      rw [List.drop_drop, ← h6, Nat.add_mul, Nat.one_mul, Nat.add_comm sz])
    refine ⟨p :: l, by simp [h3], ?_, ?_⟩
    · rw [List.flatMap_cons, ← h1, ← h4, List.take_append_drop]
    · intro q hq
      rcases List.mem_cons.1 hq with rfl | hq
      · exact h2
      · exact h5 q hq

theorem flatMap_single {α : Type} (f : α → Value) (l : List α) : l.flatMap (fun n => [f n]) = l.map f := by
  induction l with
  | nil => rfl
  | cons a l ih => rw [List.flatMap_cons, ih]; rfl
theorem rd_ints {t e : TypeId} {k : IntKind} {a : Option Addr} {len cap : Nat} {d : DataW H} {ps : List MemPlace} (ht : P.underlying t = some (.slice e)) (he : P.underlying e = some (.int k)) (hc : P.cellsOf e = 1)
    (h : DataW.Trod enc P w 0 spare held t (.slice a len cap) d ps) :
    ∃ ns : List Int, Rd w 1 (.slice a len cap) len (ns.map (Value.int k)) ∧ ∀ n ∈ ns, (Lit.int k n).wf = true := by
  obtain ⟨xs, h1, h2⟩ := rd_of_trod ht hc h
  obtain ⟨l, h3, h4, h5⟩ := pieces (fun n : Int => [Value.int k n]) (fun n => (Lit.int k n).wf = true) 1 len xs h1.1 (fun i hi => by
    obtain ⟨m, y, hy⟩ := h2 i hi
    obtain ⟨n, hn, _, hw⟩ := DataW.trod_int he hy
    exact ⟨n, hn, hw⟩)
  refine ⟨l, ?_, h5⟩
  have : l.flatMap (fun n : Int => [Value.int k n]) = l.map (Value.int k) := flatMap_single _ l
  rw [← this, ← h4]
  exact h1
theorem rd_strings {t e : TypeId} {a : Option Addr} {len cap : Nat} {d : DataW H} {ps : List MemPlace} (ht : P.underlying t = some (.slice e)) (he : P.underlying e = some .string) (hc : P.cellsOf e = 1)
    (h : DataW.Trod enc P w 0 spare held t (.slice a len cap) d ps) :
    ∃ ss : List (List UInt8), Rd w 1 (.slice a len cap) len (ss.map fun l => Value.string ⟨l.toArray⟩) ∧ ∀ s ∈ ss, s.length ≤ maxLen := by
  obtain ⟨xs, h1, h2⟩ := rd_of_trod ht hc h
  obtain ⟨l, h3, h4, h5⟩ := pieces (fun l : List UInt8 => [Value.string ⟨l.toArray⟩]) (fun l => l.length ≤ maxLen) 1 len xs h1.1 (fun i hi => by
    obtain ⟨m, y, hy⟩ := h2 i hi
    obtain ⟨⟨⟨s⟩⟩, hn, _, hw⟩ := DataW.trod_string he hy
    exact ⟨s, hn, hw⟩)
  refine ⟨l, ?_, h5⟩
  have : l.flatMap (fun l : List UInt8 => [Value.string ⟨l.toArray⟩]) = l.map fun l => Value.string ⟨l.toArray⟩ := flatMap_single _ l
  rw [← this, ← h4]
  exact h1
end
theorem wf_i64 {n : Int} (h : (Lit.int .i64 n).wf = true) : -9223372036854775808 ≤ n ∧ n ≤ 9223372036854775807 := by
  simp only [Lit.wf, Bool.and_eq_true, decide_eq_true_eq] at h
  have e1 : IntKind.i64.min = -9223372036854775808 := by decide
  have e2 : IntKind.i64.max = 9223372036854775807 := by decide
  rw [e1, e2] at h; exact h
theorem wf_u8 {n : Int} (h : (Lit.int .u8 n).wf = true) : ∃ c : UInt8, n = (c.toNat : Int) := by
  simp only [Lit.wf, Bool.and_eq_true, decide_eq_true_eq] at h
  have e1 : IntKind.u8.min = 0 := by decide
  have e2 : IntKind.u8.max = 255 := by decide
  rw [e1, e2] at h
  exact ⟨UInt8.ofNat n.toNat, by simp; omega⟩
theorem wf_u32 {n : Int} (h : (Lit.int .u32 n).wf = true) : ∃ c : UInt32, n = (c.toNat : Int) := by
  simp only [Lit.wf, Bool.and_eq_true, decide_eq_true_eq] at h
  have e1 : IntKind.u32.min = 0 := by decide
  have e2 : IntKind.u32.max = 4294967295 := by decide
  rw [e1, e2] at h
  exact ⟨UInt32.ofNat n.toNat, by simp; omega⟩
end Go.Proofs.Ytmjgbkepngeckaa
