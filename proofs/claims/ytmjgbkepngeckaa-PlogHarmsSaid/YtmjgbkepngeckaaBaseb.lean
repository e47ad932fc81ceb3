/- The laws of XBase at the operation, in the walk's form; bytes; conversions; min and max. -/
import Derived.Test.YtmjgbkepngeckaaBase
namespace Go.Proofs.Ytmjgbkepngeckaa
open Go.RowKit Go.Lib
set_option linter.unusedVariables false

/-- Bytes as cells. -/
def bcells (l : List UInt8) : List Value := l.map fun c => Value.int .u8 (c.toNat : Int)
theorem bcells_append (a b : List UInt8) : bcells (a ++ b) = bcells a ++ bcells b := by simp [bcells]
theorem bcells_length (a : List UInt8) : (bcells a).length = a.length := by simp [bcells]
theorem bcells_one (l : List UInt8) : ∀ u ∈ bcells l, u.oneCell' = true := by
  intro u hu; simp only [bcells, List.mem_map] at hu; obtain ⟨_, _, rfl⟩ := hu; rfl
theorem icells_one (k : IntKind) (l : List Int) : ∀ u ∈ l.map (Value.int k), u.oneCell' = true := by
  intro u hu; simp only [List.mem_map] at hu; obtain ⟨_, _, rfl⟩ := hu; rfl

/-- What the table says of a slice type and its elements. -/
def Elem (P : Program) (t e : TypeId) (z : Value) (size bytes : Nat) : Prop :=
  P.underlying t = some (.slice e) ∧ z.cells.size = size ∧ ∃ i, P.info? e = some i ∧ i.zero = some z ∧ i.size = size ∧ i.bytes = bytes
theorem Elem.mk' {P : Program} {t e : TypeId} {z : Value} {size bytes : Nat} (ht : P.underlying t = some (.slice e)) (hz : z.cells.size = size)
    (h : (P.info? e).map (fun i => (i.zero, i.size, i.bytes)) = some (some z, size, bytes)) : Elem P t e z size bytes := by
  obtain ⟨i, h1, h2, h3, h4⟩ := info_parts h
  exact ⟨ht, hz, i, h1, h2, h3, h4⟩

theorem Rd.lit (w : World) (C : Array Value) (e : TypeId) (size n : Nat) (hs : C.size = n * size) (hm : n ≤ maxLen) :
    Rd (w.alloc (.cells C e)) size (.slice (some ⟨w.heap.size, 0, none⟩) n n) n C.toList := by
  refine ⟨by simpa using hs, some ⟨w.heap.size, 0, none⟩, n, rfl, Nat.le_refl _, hm, (fun h => by cases h), fun g hg j u hu => ?_⟩
  cases hg
  rw [Addr.add_lit, Nat.zero_add, World.cell?_alloc_new]
  simpa using hu
/-- The same at a block that is spelled otherwise. -/
theorem Rd.litg {w : World} {g : Nat} (C : Array Value) (e : TypeId) (size n : Nat) (hs : C.size = n * size) (hm : n ≤ maxLen) (hg : w.heap.size = g) :
    Rd (w.alloc (.cells C e)) size (.slice (some ⟨g, 0, none⟩) n n) n C.toList := by
  subst hg; exact Rd.lit w C e size n hs hm
theorem Own.lit (w : World) (C : Array Value) (e : TypeId) (size n : Nat) (hs : C.size = n * size) (hm : n ≤ maxLen) :
    Own (w.alloc (.cells C e)) e size (.slice (some ⟨w.heap.size, 0, none⟩) n n) n C.toList :=
  ⟨by simpa using hs, .inr ⟨w.heap.size, 0, n, C, (0, 0), rfl, heap_alloc_new w _, by simp, Nat.le_refl _, hm, by omega, by rw [List.drop_zero]; exact List.take_of_length_le (by rw [Array.length_toList, hs]; exact Nat.le_refl _)⟩⟩
theorem Own.alloc {w : World} {e : TypeId} {size : Nat} {v : Value} {n : Nat} {xs : List Value} (h : Own w e size v n xs) (o : Obj) : Own (w.alloc o) e size v n xs :=
  h.keep ((Ext.refl [] w).alloc o) (by simp)
theorem Rd.alloc {w : World} {size : Nat} {v : Value} {n : Nat} {xs : List Value} (h : Rd w size v n xs) (o : Obj) : Rd (w.alloc o) size v n xs :=
  h.keep ((Ext.refl [] w).alloc o) (by simp)
theorem Rd.nil (w : World) (size : Nat) : Rd w size (.slice none 0 0) 0 [] :=
  ⟨by simp, none, 0, rfl, Nat.le_refl _, Nat.zero_le _, (fun _ => ⟨rfl, rfl⟩), fun _ h => by cases h⟩

/-- What a slice that is not empty leads to. -/
theorem Rd.view {w : World} {size : Nat} {a : Option Addr} {n cap : Nat} {xs : List Value} (h : Rd w size (.slice a n cap) n xs) (hn : 0 < n * size) :
    ∃ b off, a = some ⟨b, off, none⟩ ∧ b < w.heap.size ∧ ∀ j u, xs[j]? = some u → w.cell? ⟨b, off + j, none⟩ = some u := by
  obtain ⟨h1, a', cap', hv, h2, h3, h4, h5⟩ := h
  simp only [Value.slice.injEq, true_and] at hv
  obtain ⟨rfl, rfl⟩ := hv
  cases a with
  | none => have := h4 rfl; obtain ⟨rfl, _⟩ := this; simp at hn
  | some g =>
    have h0 := h5 g rfl 0 _ (List.getElem?_eq_getElem (by omega))
    obtain ⟨b, off, spot⟩ := g
    have hs : spot = none := by simpa [Addr.add] using World.cell?_spot h0
    subst hs
    refine ⟨b, off, rfl, by simpa [Addr.add_lit] using World.block_lt_of_cell? w _ h0, fun j u hu => ?_⟩
    rw [← Addr.add_lit]
    exact h5 _ rfl j u hu
theorem Rd.len {w : World} {size : Nat} {a : Option Addr} {n m cap : Nat} {xs : List Value} (h : Rd w size (.slice a n cap) m xs) : m = n ∧ n ≤ cap ∧ cap ≤ maxLen ∧ xs.length = n * size := by
  obtain ⟨h1, a', cap', hv, h2, h3, h4, h5⟩ := h
  simp only [Value.slice.injEq] at hv
  obtain ⟨rfl, rfl, rfl⟩ := hv
  exact ⟨rfl, h2, h3, h1⟩
theorem Rd.isSlice {w : World} {size : Nat} {v : Value} {m : Nat} {xs : List Value} (h : Rd w size v m xs) : ∃ a cap, v = .slice a m cap := by
  obtain ⟨h1, a', cap', hv, h2, h3, h4, h5⟩ := h
  exact ⟨_, _, hv⟩
theorem Rd.byte {w : World} {e : TypeId} {E : Int} {c : UInt8} (h : E = (c.toNat : Int)) : Rd (w.alloc (.cells #[.int .u8 E] e)) 1 (.slice (some ⟨w.heap.size, 0, none⟩) 1 1) 1 (bcells [c]) := by
  subst h
  exact Rd.lit w #[.int .u8 (c.toNat : Int)] e 1 1 rfl (by unfold maxLen; omega)
theorem Rd.byte2 {w : World} {e : TypeId} {E F : Int} {c d : UInt8} (h : E = (c.toNat : Int)) (h' : F = (d.toNat : Int)) : Rd (w.alloc (.cells #[.int .u8 E, .int .u8 F] e)) 1 (.slice (some ⟨w.heap.size, 0, none⟩) 2 2) 2 (bcells [c, d]) := by
  subst h; subst h'
  exact Rd.lit w #[.int .u8 (c.toNat : Int), .int .u8 (d.toNat : Int)] e 1 2 rfl (by unfold maxLen; omega)
/-- The blocks of what append hands back, over a step. -/
theorem vb_step {v v' : Value} {B : List Nat} {n m : Nat} (h : ∀ k ∈ vblocks v, k ∈ B ∨ n ≤ k) (h' : vblocks v' = vblocks v ∨ vblocks v' = [m]) (hm : n ≤ m) : ∀ k ∈ vblocks v', k ∈ B ∨ n ≤ k := by
  intro k hk
  rcases h' with h' | h'
  · exact h k (h' ▸ hk)
  · rw [h'] at hk; simp at hk; subst hk; exact .inr hm

/-- The cells of things of one size each. -/
theorem flatMap_get {α : Type} (f : α → List Value) (sz : Nat) (hf : ∀ a, (f a).length = sz) : ∀ (l : List α) (k j : Nat) (hk : k < l.length), j < sz → (l.flatMap f)[k * sz + j]? = (f l[k])[j]? := by
  intro l
  induction l with
  | nil => intro k j hk; simp at hk
  | cons a l ih =>
    intro k j hk hj
    rw [List.flatMap_cons]
    cases k with
    | zero => rw [Nat.zero_mul, Nat.zero_add, List.getElem?_append_left (by rw [hf]; exact hj)]; rfl
    | succ k =>
      rw [List.getElem?_append_right (by rw [hf, Nat.add_mul]; omega), hf, show (k + 1) * sz + j - sz = k * sz + j by rw [Nat.add_mul]; omega]
      exact ih k j (by simpa using hk) hj
theorem flatMap_len {α : Type} (f : α → List Value) (sz : Nat) (hf : ∀ a, (f a).length = sz) (l : List α) : (l.flatMap f).length = l.length * sz := by
  induction l with
  | nil => simp
  | cons a l ih => rw [List.flatMap_cons, List.length_append, ih, hf, List.length_cons, Nat.add_mul]; omega
/-! A block known whole. -/
def Blk (w : World) (g : Nat) (t : TypeId) (cs : List Value) : Prop := w.heap[g]? = some (.cells cs.toArray t (0, 0))
theorem Blk.new (w : World) (t : TypeId) (C : Array Value) : Blk (w.alloc (.cells C t)) w.heap.size t C.toList := by
  unfold Blk; rw [heap_alloc_new]
theorem Blk.lt {w : World} {g : Nat} {t : TypeId} {cs : List Value} (h : Blk w g t cs) : g < w.heap.size := (Array.getElem?_eq_some_iff.1 h).1
theorem Blk.c {w : World} {g : Nat} {t : TypeId} {cs : List Value} (h : Blk w g t cs) (j : Nat) : w.cell? ⟨g, j, none⟩ = cs[j]? := by rw [cell_row h]; simp
theorem Blk.f {w : World} {g : Nat} {t : TypeId} {cs : List Value} (h : Blk w g t cs) (j : Nat) : w.frozen? ⟨g, j, none⟩ = false := frozen_of_row w g j _ _ h
theorem Blk.keep {w w' : World} {g : Nat} {t : TypeId} {cs : List Value} {F : List Nat} (h : Blk w g t cs) (hx : Ext F w w') (hg : g ∉ F) : Blk w' g t cs := hx.heap hg h
theorem Blk.alloc {w : World} {g : Nat} {t : TypeId} {cs : List Value} (h : Blk w g t cs) (o : Obj) : Blk (w.alloc o) g t cs := h.keep ((Ext.refl [] w).alloc o) (by simp)
theorem Blk.set {w : World} {g : Nat} {t : TypeId} {cs : List Value} (h : Blk w g t cs) (j : Nat) (v : Value) : Blk (w.setCell ⟨g, j, none⟩ v) g t (cs.set j v) := by
  unfold Blk at *; rw [heap_setCell_same w g j _ _ _ h]; simp
theorem Blk.other {w : World} {g : Nat} {t : TypeId} {cs : List Value} (h : Blk w g t cs) (a : Addr) (v : Value) (hne : g ≠ a.block) : Blk (w.setCell a v) g t cs := by
  unfold Blk at *; rw [heap_setCell_other w a g v hne]; exact h

section
variable {P : Program} {w : World}

theorem run_append_Own_str (t u ty e : TypeId) (hel : Elem P t e (.int .u8 0) 1 1) (hu : P.underlying u = some .string)
    (v : Value) (n : Nat) (xs : List Value) (hown : Own w e 1 v n xs) (s : ByteArray)
    (hbytes : n + s.size ≤ 140737488355328) :
    ∃ v' w', (Builtin.append_ #[t, u] ty #[v, .string s]).run P w = .ok v' w' ∧ Own w' e 1 v' (n + s.size) (xs ++ bcells s.data.toList) ∧ Ext (vblocks v) w w' ∧
      (vblocks v' = vblocks v ∨ vblocks v' = [w.heap.size]) := by
  obtain ⟨ht, _, i, hi, hz, hsize, hby⟩ := hel
  have h63 : n + s.size ≤ maxLen := by unfold maxLen; omega
  have hxl : xs.length = n := by simpa using hown.1
  have hsl : (bcells s.data.toList).length = s.size := by rw [bcells_length, Array.length_toList]; rfl
  have hsl' : (strCells s).length = s.size := hsl
  have hlen : (xs ++ bcells s.data.toList).length = (n + s.size) * 1 := by rw [List.length_append, hxl, hsl, Nat.mul_one]
  rcases hown.2 with ⟨rfl, rfl⟩ | ⟨g, off, cap, cur, fz, rfl, hg, hfz, hnc, hcm, hcs, htake⟩
  · have hx0 : xs = [] := List.eq_nil_of_length_eq_zero (by simpa using hown.1)
    subst hx0
    by_cases hm : s.size = 0
    · have hn : bcells s.data.toList = [] := List.eq_nil_of_length_eq_zero (by rw [hsl, hm])
      refine ⟨.slice none 0 0, w, ?_, by rw [hm, hn]; exact Own.nil w e 1, Ext.refl _ _, .inl rfl⟩
      have hf := run_firstCells_string (P := P) w 1 s
      rw [hm] at hf
      simp [Builtin.append_, run_underlying ht, run_underlying hu, sizeOf, typeInfo, hi, hsize, Builtin.lenOf, hm, hf]
    · have hr := run_append_nil_string (P := P) w t u ty e i (.int .u8 0) ht hu hi hz s (by omega) (by omega) (by rw [hby]; omega)
      have e1 : (s.data.map fun b => Value.int .u8 b.toNat) = (strCells s).toArray := by
        apply Array.ext'
        simp [strCells]
      rw [e1] at hr
      have hge := grownCap_ge w s.size 0 e
      refine ⟨_, _, hr, ⟨by simpa using hlen, .inr ⟨w.heap.size, 0, grownCap w s.size 0 e, _, (0, 0), by rw [Nat.zero_add], heap_alloc_new w.drew _, by simp, by omega, grownCap_le_maxLen w s.size 0 e (by unfold maxLen; omega), ?_, ?_⟩⟩, (Ext.refl _ w).drew.alloc _, .inr rfl⟩
      · have hz1 : (Value.int IntKind.u8 0).cells.size = 1 := rfl
        simp only [Array.size_append, List.size_toArray, size_zeroCells, hz1, hsl']
        omega
      · simp only [Array.toList_append, List.drop_zero, List.nil_append]
        refine List.take_left' ?_
        show (strCells s).length = _
        omega
  · have hon : off + n * 1 ≤ cur.size := Nat.le_trans (Nat.add_le_add_left (Nat.mul_le_mul_right _ hnc) _) hcs
    by_cases hroom : n + s.size ≤ cap
    · have hf := run_firstCells_string (P := P) w 1 s
      have hst := run_storeCells_un (P := P) g (off + n) e fz (strCells s) 0 cur w hg hfz (by rw [hsl']; omega) (strCells_oneCell s)
      simp only [Nat.add_zero, hsl'] at hst
      refine ⟨.slice (some ⟨g, off, none⟩) (n + s.size) cap, w.setRow g (cur.toList.take (off + n) ++ strCells s ++ cur.toList.drop (off + n + s.size)).toArray, ?_, ⟨hlen, .inr ⟨g, off, cap, _, fz, rfl, setRow_heap w g cur _ e _ hg, ?_, hroom, hcm, ?_, ?_⟩⟩, ⟨rfl, rfl, rfl, by simp, fun k _ hk => setRow_other w g k _ (fun h => hk (by simp [vblocks, h]))⟩, .inl rfl⟩
      · simp [Builtin.append_, run_underlying ht, run_underlying hu, sizeOf, typeInfo, hi, hsize, Builtin.lenOf, hroom, hf, Addr.add_lit, hst]
      · intro j hj
        refine hfz j ?_
        simp only [List.size_toArray, List.length_append, List.length_take, List.length_drop, Array.length_toList, hsl'] at hj
        omega
      · simp only [List.size_toArray, List.length_append, List.length_take, List.length_drop, Array.length_toList, hsl']
        omega
      · rw [List.toList_toArray, Nat.mul_one]
        exact toList_seg cur.toList off n s.size xs (strCells s) (by simpa using htake) hxl hsl' (by rw [Array.length_toList]; omega)
    · obtain ⟨_, a', cap', hv', _, _, _, hcells⟩ := hown.rd
      simp only [Value.slice.injEq] at hv'
      obtain ⟨rfl, _, rfl⟩ := hv'
      have hr := run_append_grow_string (P := P) w t u ty e i (.int .u8 0) ht hu hi hz ⟨g, off, none⟩ n cap xs (by rw [hsize]; simpa using hxl) (hcells _ rfl) s (by omega) (by omega) (by rw [hby]; exact growslice_fits (by omega) (by omega))
      have hge := grownCap_ge w (n + s.size) cap e
      refine ⟨_, _, hr, ⟨hlen, .inr ⟨w.heap.size, 0, grownCap w (n + s.size) cap e, _, (0, 0), rfl, heap_alloc_new w.drew _, by simp, hge, grownCap_le_maxLen w (n + s.size) cap e h63, ?_, ?_⟩⟩, (Ext.refl _ w).drew.alloc _, .inr rfl⟩
      · have hz1 : (Value.int IntKind.u8 0).cells.size = 1 := rfl
        simp only [Array.size_append, List.size_toArray, size_zeroCells, hz1, hxl, hsl']
        omega
      · simp only [Array.toList_append, List.drop_zero]
        refine List.take_left' ?_
        show (xs ++ strCells s).length = _
        exact hlen

/-- append(s, x...), s owned, x readable. -/
theorem wpl_append {ops : Array Oper} {rest : List Oper} {a : Act} {Q : Exit → Act → World → Prop} {d : Option Tmp} {s x : Operand} {t ty : TypeId} {pos : String} {after : Array Edge}
    (e : TypeId) (z : Value) (size bytes : Nat) (hel : Elem P t e z size bytes)
    (v : Value) (n : Nat) (xs : List Value) (hs : a.eval s = v) (hown : Own w e size v n xs)
    (vx : Value) (m : Nat) (news : List Value) (hx : a.eval x = vx) (hrd : Rd w size vx m news) (h1 : ∀ u ∈ news, u.oneCell' = true)
    (hbytes : (n + m) * bytes ≤ 140737488355328) (h63 : n + m ≤ maxLen)
    (h : ∀ v' w', Own w' e size v' (n + m) (xs ++ news) → Ext (vblocks v) w w' → (vblocks v' = vblocks v ∨ vblocks v' = [w.heap.size]) → (m = 0 → v' = v ∧ w' = w) → wpList P ops Q rest (a.put d v') w') :
    wpList P ops Q (⟨d, .call { callee := .builtin .append, args := #[s, x], argTypes := #[t, t] }, ty, pos, after, none⟩ :: rest) a w := by
  refine wpList_plain rfl fun K hK => ?_
  obtain ⟨ht, hzs, i, hi, hz, hsize, hby⟩ := hel
  obtain ⟨v', w', hr, h2, h3, h4, h5⟩ := run_append_Own (P := P) w t ty e i z size bytes ht hi hz hsize hby hzs v n xs hown vx m news hrd h1 h63 hbytes
  unfold Oper.wp execOp
  simp only [resolve, invoke, builtin, Sem.run_bind, Sem.run_pure, Result.andThen_ok, List.map_toArray, List.map_cons, List.map_nil, hs, hx, hr]
  exact hK _ _ (h v' w' h2 h3 h4 h5)

/-- append(b, s...), b owned bytes, s a string. -/
theorem wpl_append_str {ops : Array Oper} {rest : List Oper} {a : Act} {Q : Exit → Act → World → Prop} {d : Option Tmp} {sl x : Operand} {t u ty : TypeId} {pos : String} {after : Array Edge}
    (e : TypeId) (hel : Elem P t e (.int .u8 0) 1 1) (hu : P.underlying u = some .string)
    (v : Value) (n : Nat) (xs : List Value) (hs : a.eval sl = v) (hown : Own w e 1 v n xs)
    (s : ByteArray) (hx : a.eval x = .string s) (hbytes : n + s.size ≤ 140737488355328)
    (h : ∀ v' w', Own w' e 1 v' (n + s.size) (xs ++ bcells s.data.toList) → Ext (vblocks v) w w' → (vblocks v' = vblocks v ∨ vblocks v' = [w.heap.size]) → wpList P ops Q rest (a.put d v') w') :
    wpList P ops Q (⟨d, .call { callee := .builtin .append, args := #[sl, x], argTypes := #[t, u] }, ty, pos, after, none⟩ :: rest) a w := by
  refine wpList_plain rfl fun K hK => ?_
  obtain ⟨v', w', hr, h2, h3, h4⟩ := run_append_Own_str (P := P) (w := w) t u ty e hel hu v n xs hown s hbytes
  unfold Oper.wp execOp
  simp only [resolve, invoke, builtin, Sem.run_bind, Sem.run_pure, Result.andThen_ok, List.map_toArray, List.map_cons, List.map_nil, hs, hx, hr]
  exact hK _ _ (h v' w' h2 h3 h4)

/-- []byte(s): the value and its row. -/
theorem run_bytes_Own (src dst e : TypeId) (s : ByteArray) (hs : P.underlying src = some .string) (hd : P.underlying dst = some (.slice e)) (he : P.underlying e = some (.int .u8)) (hm : s.size ≤ maxLen) :
    ∃ v' w', (convert src dst (.string s)).run P w = .ok v' w' ∧ Own w' e 1 v' s.size (bcells s.data.toList) ∧ Ext [] w w' ∧ vblocks v' = [w.heap.size] ∧ ∃ cap, v' = .slice (some ⟨w.heap.size, 0, none⟩) s.size cap := by
  have hr := run_bytes_of_string (P := P) w src dst e s hs hd he
  have hge := grownCap_ge w s.size 0 e
  have hsz : (bytesRow s (grownCap w s.size 0 e)).size = grownCap w s.size 0 e := by
    simp only [bytesRow, Array.size_append, Array.size_map, Array.size_replicate]
    have : s.data.size = s.size := rfl
    omega
  refine ⟨_, _, hr, ⟨?_, .inr ⟨w.heap.size, 0, grownCap w s.size 0 e, _, _, rfl, heap_alloc_new w.drew _, ?_, hge, grownCap_le_maxLen w s.size 0 e hm, ?_, ?_⟩⟩, (Ext.refl _ w).drew.alloc _, rfl, _, rfl⟩
  · rw [bcells_length, Array.length_toList, Nat.mul_one]; rfl
  · intro j hj; simp only; omega
  · rw [hsz]; omega
  · rw [List.drop_zero, Nat.mul_one]
    simp only [bytesRow, Array.toList_append, Array.toList_map]
    exact List.take_left' (by rw [List.length_map, Array.length_toList]; rfl)

theorem wpl_bytes {ops : Array Oper} {rest : List Oper} {a : Act} {Q : Exit → Act → World → Prop} {d : Option Tmp} {x : Operand} {src dst ty : TypeId} {pos : String} {after : Array Edge}
    (e : TypeId) (hs : P.underlying src = some .string) (hd : P.underlying dst = some (.slice e)) (he : P.underlying e = some (.int .u8))
    (s : ByteArray) (hx : a.eval x = .string s) (hm : s.size ≤ maxLen)
    (h : ∀ cap w', Own w' e 1 (.slice (some ⟨w.heap.size, 0, none⟩) s.size cap) s.size (bcells s.data.toList) → Ext [] w w' → w.heap.size < w'.heap.size → wpList P ops Q rest (a.put d (.slice (some ⟨w.heap.size, 0, none⟩) s.size cap)) w') :
    wpList P ops Q (⟨d, .convert src dst x, ty, pos, after, none⟩ :: rest) a w := by
  refine wpList_plain rfl fun K hK => ?_
  obtain ⟨v', w', hr, h2, h3, h4, cap, rfl⟩ := run_bytes_Own (P := P) (w := w) src dst e s hs hd he hm
  unfold Oper.wp execOp
  simp only [Sem.run_bind, Sem.run_pure, Result.andThen_ok, hx, hr]
  exact hK _ _ (h cap w' h2 h3 (h2.lt _ (by simp [vblocks])))

/-- string(b): b reads as bytes. -/
theorem run_string_Rd (src dst e : TypeId) (hs : P.underlying src = some (.slice e)) (he : P.underlying e = some (.int .u8)) (hd : P.underlying dst = some .string)
    (v : Value) (n : Nat) (l : List UInt8) (h : Rd w 1 v n (bcells l)) : (convert src dst v).run P w = .ok (.string ⟨l.toArray⟩) w := by
  obtain ⟨h1, a, cap, rfl, h2, h3, h4, h5⟩ := h
  rw [bcells_length, Nat.mul_one] at h1
  subst h1
  cases a with
  | none =>
    have : l = [] := List.eq_nil_of_length_eq_zero (h4 rfl).1
    subst this
    rw [run_convert_bytes_nil w src e hs he _ _ dst hd]
    rfl
  | some g =>
    refine run_convert_bytes_back w src dst e g cap l hs he hd (fun j hj => h5 g rfl j _ ?_)
    simp [bcells, List.getElem?_eq_getElem hj]

theorem wpl_string {ops : Array Oper} {rest : List Oper} {a : Act} {Q : Exit → Act → World → Prop} {d : Option Tmp} {x : Operand} {src dst ty : TypeId} {pos : String} {after : Array Edge}
    (e : TypeId) (hs : P.underlying src = some (.slice e)) (he : P.underlying e = some (.int .u8)) (hd : P.underlying dst = some .string)
    (v : Value) (n : Nat) (l : List UInt8) (hx : a.eval x = v) (hrd : Rd w 1 v n (bcells l))
    (h : wpList P ops Q rest (a.put d (.string ⟨l.toArray⟩)) w) :
    wpList P ops Q (⟨d, .convert src dst x, ty, pos, after, none⟩ :: rest) a w := by
  refine wpList_plain rfl fun K hK => ?_
  have hr := run_string_Rd (P := P) (w := w) src dst e hs he hd v n l hrd
  unfold Oper.wp execOp
  simp only [Sem.run_bind, Sem.run_pure, Result.andThen_ok, hx, hr]
  exact hK _ _ h
end

theorem run_max2 {P : Program} (ts : Array TypeId) (t : TypeId) (k k' : IntKind) (x y : Int) (w : World) : (Builtin.max_ ts t #[.int k x, .int k' y]).run P w = .ok (.int k (max x y)) w := by
  rw [run_max_int2]; congr 2; rw [Int.max_def]; split <;> split <;> omega
theorem run_min2 {P : Program} (ts : Array TypeId) (t : TypeId) (k k' : IntKind) (x y : Int) (w : World) : (Builtin.min_ ts t #[.int k x, .int k' y]).run P w = .ok (.int k (min x y)) w := by
  rw [run_min_int2]; congr 2; rw [Int.min_def]; split <;> split <;> omega
end Go.Proofs.Ytmjgbkepngeckaa
