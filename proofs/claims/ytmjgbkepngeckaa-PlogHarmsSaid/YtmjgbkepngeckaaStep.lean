/- append as a step of a region that draws its order; min of four. -/
import Derived.Test.YtmjgbkepngeckaaBaseb
import Derived.Deep.RegionLaw
namespace Go.Proofs.Ytmjgbkepngeckaa
open Go.RowKit
set_option linter.unusedVariables false

theorem step_append {P : Program} {ops : Array Oper} {o : Oper} {a : Act} {w : World} {K : Act → World → Prop} {Q : Exit → Act → World → Prop} {E : Prop}
    (hg : o.guard = none) (s x : Operand) (t : TypeId) (hop : o.op = Op.call { callee := Callee.builtin Builtin.append, args := #[s, x], argTypes := #[t, t] })
    (e : TypeId) (z : Value) (size bytes : Nat) (hel : Elem P t e z size bytes)
    (v : Value) (n : Nat) (xs : List Value) (hs : a.eval s = v) (hown : Own w e size v n xs)
    (vx : Value) (m : Nat) (news : List Value) (hx : a.eval x = vx) (hrd : Rd w size vx m news) (h1 : ∀ u ∈ news, u.oneCell' = true)
    (hbytes : (n + m) * bytes ≤ 140737488355328) (h63 : n + m ≤ maxLen)
    (hK : ∀ v' w', Own w' e size v' (n + m) (xs ++ news) → Ext (vblocks v) w w' → (vblocks v' = vblocks v ∨ vblocks v' = [w.heap.size]) → K (a.put o.dst v') w') :
    if Region.wanted o (yielded ops a.tmps) = true then Oper.wp P o a w K Q else E := by
  have hw : Region.wanted o (yielded ops a.tmps) = true := by simp [Region.wanted, hg]
  rw [if_pos hw]
  obtain ⟨ht, hzs, i, hi, hz, hsize, hby⟩ := hel
  obtain ⟨v', w', hr, h2, h3, h4, h5⟩ := run_append_Own (P := P) w t o.type e i z size bytes ht hi hz hsize hby hzs v n xs hown vx m news hrd h1 h63 hbytes
  unfold Oper.wp
  simp [execOp, hop, resolve, invoke, builtin, hs, hx, hr, Result.andThen]
  exact hK _ _ h2 h3 h4

theorem run_min4 {P : Program} (ts : Array TypeId) (t : TypeId) (k : IntKind) (x y z u : Int) (w : World) : (Builtin.min_ ts t #[.int k x, .int k y, .int k z, .int k u]).run P w = .ok (.int k (min (min (min x y) z) u)) w := by
  have hm : ∀ p q : Int, (if q < p then q else p) = min p q := fun p q => by rw [Int.min_def]; split <;> split <;> omega
  simp [Builtin.min_, Builtin.min2, hm]
theorem run_str_at {P : Program} (t : TypeId) (l : List UInt8) (j : Nat) (W : World) (h : P.underlying t = some .string) (hj : j < l.length) :
    (Instr.index t (.string ⟨l.toArray⟩) (.int .i64 (j : Int))).run P W = .ok (.int .u8 (l[j].toNat : Int)) W := by
  rw [run_index_string _ _ _ _ _ h]
  have h1 : (0 : Int) ≤ (j : Int) ∧ (j : Int) < ((⟨l.toArray⟩ : ByteArray).size : Int) := ⟨by omega, by show (j : Int) < (l.length : Int); omega⟩
  rw [dif_pos h1]
  rfl
end Go.Proofs.Ytmjgbkepngeckaa
