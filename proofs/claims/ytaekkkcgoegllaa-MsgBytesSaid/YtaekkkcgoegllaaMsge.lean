/- Package msg: the walk of Read. -/
import Derived.Test.YtaekkkcgoegllaaMsgd
namespace Go.Proofs.Ytaekkkcgoegllaa
open Go.RowKit
set_option linter.unusedVariables false
set_option linter.unusedSimpArgs false

/-- A call of a Go function as a step of a region that draws its order. -/
theorem step_calls {P : Program} {ops : Array Oper} {o : Oper} {a : Act} {w : World} {K : Act → World → Prop} {Q : Exit → Act → World → Prop} {E : Prop}
    (hg : o.guard = none) (f : FuncId) (xs : Array Operand) (ts : Array TypeId) (hop : o.op = Op.call { callee := Callee.value (Operand.func f), args := xs, argTypes := ts })
    (hen : ∀ args w, (callFunc f args).run P w = .ok (.enter f args) w) (args : Array Value) (ha : xs.map a.eval = args)
    {R : Ending → World → Prop} (hc : Calls P f args w R) (hK : ∀ e w', R e w' → ∃ v, e = .returned v ∧ K (a.put o.dst v) w') :
    if Region.wanted o (yielded ops a.tmps) = true then Oper.wp P o a w K Q else E := by
  have hw : Region.wanted o (yielded ops a.tmps) = true := by simp [Region.wanted, hg]
  rw [if_pos hw]
  refine step_call (f := f) (args := args) (w' := w) ?_ (hc.mono fun e w' h => hK e w' h)
  subst ha
  simp [execOp, hop, resolve, invoke, Act.eval, Deferred.ofValue, hen]
theorem ent_num (args : Array Value) (w : World) : (callFunc 35 args).run Try.prog w = .ok (.enter 35 args) w := enters_of Try.func35 (by kernel_rfl) rfl args w
theorem ent_text (args : Array Value) (w : World) : (callFunc 36 args).run Try.prog w = .ok (.enter 36 args) w := enters_of Try.func36 (by kernel_rfl) rfl args w
theorem repR_snoc {α : Type} (R : St → α × St) : ∀ (k : Nat) (st : St), repR R (k + 1) st = ((repR R k st).1 ++ [(R (repR R k st).2).1], (R (repR R k st).2).2)
  | 0, st => rfl
  | k + 1, st => by
    have ih := repR_snoc R k (R st).2
    show ((R st).1 :: (repR R (k + 1) (R st).2).1, (repR R (k + 1) (R st).2).2) = _
    rw [ih]
    rfl
theorem numR_len (most : Int) (st : St) : (numR most st).2.1.length ≤ st.1.length := by
  unfold numR
  split
  · simp
  · exact (take_len 6 st).2.2
theorem textR_len (most : Int) (st : St) : (textR most st).2.1.length ≤ st.1.length := by
  unfold textR
  split
  · exact (take_len 2 st).2.2
  · split
    · simp
    · exact Nat.le_trans (take_len _ _).2.2 (take_len 2 st).2.2
theorem flagR_len (st : St) : (flagR st).2.1.length ≤ st.1.length := by
  unfold flagR flagOf
  split
  · exact (take_len 1 st).2.2
  · split
    · simp
    · exact (take_len 1 st).2.2
theorem repR_len {α : Type} (R : St → α × St) (h : ∀ st, (R st).2.1.length ≤ st.1.length) : ∀ (k : Nat) (st : St), (repR R k st).2.1.length ≤ st.1.length
  | 0, st => Nat.le_refl _
  | k + 1, st => Nat.le_trans (repR_len R h k (R st).2) (h st)
theorem entR_len (st : St) : (entR st).2.1.length ≤ st.1.length :=
  Nat.le_trans (textR_len _ _) (Nat.le_trans (numR_len _ _) (numR_len _ _))
theorem repR_count {α : Type} (R : St → α × St) : ∀ (k : Nat) (st : St), (repR R k st).1.length = k
  | 0, _ => rfl
  | k + 1, st => by show ((R st).1 :: (repR R k (R st).2).1).length = k + 1; rw [List.length_cons, repR_count R k]
theorem numR_rng (most : Int) (st : St) (h0 : 0 ≤ most) : 0 ≤ (numR most st).1 ∧ (numR most st).1 ≤ most := by
  unfold numR
  split
  · exact ⟨Int.le_refl _, h0⟩
  · rename_i h; simp only; omega
theorem el_ents : Elem Try.prog 30 60 (.agg #[.int .i64 0, .int .i64 0, .string ByteArray.empty]) 3 32 := Elem.mk' Try.underlying30 rfl (by kernel_rfl)
theorem el_sums : Elem Try.prog 32 64 (.int .u32 0) 1 4 := Elem.mk' Try.underlying32 rfl (by kernel_rfl)
/-- A message under way: its first k numbers read. -/
def headC (kind : Int) (fs : List Int) (k : Nat) : List Value := .int .i64 kind :: (fs.map (Value.int .i64) ++ List.replicate (7 - k) (.int .i64 0))
def tailC : List Value := [.slice none 0 0, .bool false, .int .i64 0, .int .i64 0, .int .i64 0, .int .i64 0, .slice none 0 0, .int .i64 0, .string ByteArray.empty]
theorem headC_set (kind : Int) (fs : List Int) (k : Nat) (x : Int) (hl : fs.length = k) (hk : k < 7) : (headC kind fs k ++ tailC).set (1 + k) (.int .i64 x) = headC kind (fs ++ [x]) (k + 1) ++ tailC := by
  unfold headC
  have e : List.replicate (7 - k) (Value.int .i64 0) = .int .i64 0 :: List.replicate (7 - (k + 1)) (.int .i64 0) := by
    rw [show 7 - k = (7 - (k + 1)) + 1 by omega, List.replicate_succ]
  rw [e, Nat.add_comm 1 k, List.cons_append, List.set_cons_succ, List.append_assoc, List.set_append_right _ _ (by simp [hl]), show k - (fs.map (Value.int .i64)).length = 0 by simp [hl]]
  simp
theorem headC_full (kind a b c d e f g : Int) : headC kind [a, b, c, d, e, f, g] 7 = [.int .i64 kind, .int .i64 a, .int .i64 b, .int .i64 c, .int .i64 d, .int .i64 e, .int .i64 f, .int .i64 g] := rfl
theorem headtail_len (kind : Int) (fs : List Int) (k : Nat) (hl : fs.length = k) (hk : k ≤ 7) : (headC kind fs k ++ tailC).length = 17 := by
  simp [headC, tailC]; omega
theorem headtail_one (kind : Int) (fs : List Int) (k : Nat) : ∀ v ∈ headC kind fs k ++ tailC, v.oneCell' = true := by
  intro v hv
  simp only [headC, tailC, List.mem_append, List.mem_cons, List.mem_map, List.mem_replicate, List.not_mem_nil, or_false] at hv
  rcases hv with (rfl | ⟨a, _, rfl⟩ | ⟨_, rfl⟩) | rfl | rfl | rfl | rfl | rfl | rfl | rfl | rfl | rfl <;> rfl
theorem u32R_len (st : St) : (u32R st).2.1.length ≤ st.1.length := numR_len _ _
theorem textR_rng (most : Int) (st : St) (h0 : 0 ≤ most) : ((textR most st).1.length : Int) ≤ most := by
  unfold textR
  split
  · simpa using h0
  · split
    · simpa using h0
    · rename_i h
      have := (take_len (val (takeR 2 st).1) (takeR 2 st).2).1
      omega
theorem repR_all {α : Type} (R : St → α × St) (P : α → Prop) (h : ∀ st, P (R st).1) : ∀ (k : Nat) (st : St), ∀ x ∈ (repR R k st).1, P x
  | 0, st => by intro x hx; cases hx
  | k + 1, st => by
    intro x hx
    rcases List.mem_cons.1 (show x ∈ (R st).1 :: (repR R k (R st).2).1 from hx) with rfl | h1
    · exact h st
    · exact repR_all R P h k _ x h1
theorem entR_ok (st : St) : (entR st).1.ok := by
  have h1 := numR_rng 281474976710655 st (by decide)
  have h2 := numR_rng 281474976710655 (numR 281474976710655 st).2 (by decide)
  have h3 := textR_rng 488 (numR 281474976710655 (numR 281474976710655 st).2).2 (by decide)
  refine ⟨⟨?_, ?_⟩, ⟨?_, ?_⟩, ?_⟩
  · show (-9223372036854775808 : Int) ≤ (numR 281474976710655 st).1; omega
  · show (numR 281474976710655 st).1 ≤ 9223372036854775807; omega
  · show (-9223372036854775808 : Int) ≤ (numR 281474976710655 (numR 281474976710655 st).2).1; omega
  · show (numR 281474976710655 (numR 281474976710655 st).2).1 ≤ 9223372036854775807; omega
  · show (textR 488 (numR 281474976710655 (numR 281474976710655 st).2).2).1.length ≤ maxLen
    unfold maxLen; omega
theorem msg_join {s : List UInt8} {K : Int} {t1 t2 t3 t4 t5 t6 t7 t8 t9 t10 t11 t12 t13 : St} {Fs : List Int} {Es : List En} {o1 : Bool} {g1 l1 l2 l3 p : Int} {Ss : List UInt32} {d : List UInt8} {N Q : Nat}
    (h0 : numR 8 (s, false) = (K, t1)) (h1 : repR (numR 281474976710655) 7 t1 = (Fs, t2)) (h2 : numR 4 t2 = ((N : Int), t3)) (h3 : repR entR N t3 = (Es, t4)) (h4 : flagR t4 = (o1, t5)) (h5 : numR 3 t5 = (g1, t6))
    (h6 : numR 281474976710655 t6 = (l1, t7)) (h7 : numR 281474976710655 t7 = (l2, t8)) (h8 : numR 281474976710655 t8 = (l3, t9)) (h9 : numR 64 t9 = ((Q : Int), t10)) (h10 : repR u32R Q t10 = (Ss, t11))
    (h11 : numR 281474976710655 t11 = (p, t12)) (h12 : textR 400 t12 = (d, t13)) : msgR (s, false) = ((K, Fs, Es, o1, g1, [l1, l2, l3], Ss, p, d), t13) := by
  have e3 : repR (numR 281474976710655) 3 t6 = ([l1, l2, l3], t9) := by simp only [repR, h6, h7, h8]
  simp only [msgR, seqR, listR, mapR, h0, h1, h2, Int.toNat_natCast, h3, h4, h5, e3, h9, h10, h11, h12]
theorem cvU (c : UInt32) : IntKind.u32.wrap (c.toNat : Int) = (c.toNat : Int) := by
  have := c.toNat_lt
  simp [IntKind.wrap, IntKind.bits, IntKind.signed]
  omega
/-- A guarded load of a row, wanted. -/
theorem wpList_load_row_g {P : Program} {ops : Array Oper} {rest : List Oper} {op : Oper} {a : Act} {w : World} {Q : Exit → Act → World → Prop} (hgd : Region.wanted op (yielded ops a.tmps) = true) (ty : TypeId) (x : Operand) (ho : op.op = .load ty x)
    (b o : Nat) (hx : a.eval x = .pointer (some ⟨b, o, none⟩)) (cs : List Value) (d : TypeDesc) (hc : w.rangeAt b o cs) (hu : P.underlying ty = some d) (hd : d.isRow = true) (hi : (P.info? ty).map (·.size) = some cs.length)
    (h : wpList P ops Q rest (a.put op.dst (.agg cs.toArray)) w) : wpList P ops Q (op :: rest) a w := by
  show if _ then _ else _
  rw [if_pos hgd]
  exact .inl (wp_load_mid ty x ho b o hx cs d hc hu hd hi h)
theorem Ext.range0 {w w' : World} {b o : Nat} {cs : List Value} (h : w.rangeAt b o cs) (hx : Ext [] w w') : w'.rangeAt b o cs := fun j v hv => hx.cell (by simp) (h j v hv)
theorem MsAt.keep0 {w w' : World} {m : Ms} {es : List En} {ss : List UInt32} (h : MsAt w m es ss) (hx : Ext [] w w') : MsAt w' m es ss :=
  ⟨h.nums, h.data, h.ents.keep hx (by simp), h.entsok, h.sums.keep hx (by simp)⟩
set_option maxRecDepth 100000 in
set_option maxHeartbeats 25600000 in
theorem mread_any (s : List UInt8) (w : World) (hs : s.length ≤ 1000000) :
    Calls Try.prog 27 #[str s] w fun e w' => Ext [] w w' ∧
      ((doneR (msgR (s, false)).2 = 0 ∧ 1 ≤ (msgR (s, false)).1.1 ∧ ∃ m es ss, e = .returned (.tuple #[.agg m.cells.toArray, .int .i64 0]) ∧ MsAt w' m es ss ∧ mv m es ss = (msgR (s, false)).1) ∨
       (¬ (doneR (msgR (s, false)).2 = 0 ∧ 1 ≤ (msgR (s, false)).1.1) ∧ e = .returned (.tuple #[.agg Ms.zero.cells.toArray, .int .i64 2]))) := by
  obtain ⟨K, hK⟩ : ∃ K, K = (numR 8 (s, false)).1 := ⟨_, rfl⟩
  obtain ⟨t1, ht1⟩ : ∃ t, t = (numR 8 (s, false)).2 := ⟨_, rfl⟩
  obtain ⟨Z, hZ⟩ : ∃ x, x = w.heap.size := ⟨_, rfl⟩
  obtain ⟨W, hW⟩ : ∃ x, x = w.alloc (.cells Ms.zero.cells.toArray 36) := ⟨_, rfl⟩
  have hBZ : Blk W Z 36 Ms.zero.cells := by rw [hW, hZ]; exact Blk.new _ _ _
  have hxW : Ext [] w W := by rw [hW]; exact (Ext.refl _ _).alloc _
  have HK := Hid.of hK
  have HT1 := Hid.of ht1
  have hl1 : t1.1.length ≤ 1000000 := by rw [ht1]; exact Nat.le_trans (numR_len _ _) hs
  have hKr : 0 ≤ K ∧ K ≤ 8 := by rw [hK]; exact numR_rng _ _ (by decide)
  go_enter Try.func27, Try.ntmps27
  go_wp2_with (refine wpList_zero_row rfl 36 rfl Ms.zero.cells al_zero ?_)
  rw [← hW, ← hZ]
  have HBZ := Hid.of hBZ
  have HXW := Hid.of hxW
  have hZw : w.heap.size ≤ Z := by omega
  clear hK ht1 hW hZ hBZ hxW
  refine (read_any s W).mono ?_
  rintro e w1 ⟨rfl, hR1, hx1⟩
  obtain ⟨b, hb⟩ : ∃ b, b = W.heap.size := ⟨_, rfl⟩
  rw [← hb] at hR1 ⊢
  have cn := rnum_any b 8 (s, false) w1 hR1 (by simp; omega)
  rw [← HK.out, ← HT1.out] at cn
  have HX1 := Hid.of hx1
  have HB := Hid.of hb
  clear hb hR1 hx1
  go_upto_region 3 with (first
    | (go_at_call 35; (with_reducible refine cn.mono ?_); rintro e w2 ⟨rfl, hR2, hx2⟩; have HR2 := Hid.of hR2; have HX2 : Hid (Ext [] W w2) := (HX1.out.trans hx2 (fun z hz => .inr (by rw [← HB.out]; simp at hz; omega))); clear hR2 hx2 cn)
    | (refine wpList_new_row rfl rfl 36 _ _ _ rfl rfl rfl rfl _ al_msg (headC K [] 0 ++ tailC) rfl (by kernel_rfl) (headtail_one _ _ _) rfl rfl ?_))
  obtain ⟨M, hM⟩ : ∃ M, M = w2.heap.size := ⟨_, rfl⟩
  obtain ⟨W3, hW3⟩ : ∃ x, x = w2.alloc (.cells (headC K [] 0 ++ tailC).toArray 36) := ⟨_, rfl⟩
  have hBM : Blk W3 M 36 (headC K [] 0 ++ tailC) := by rw [hW3, hM]; exact Blk.new _ _ _
  have hX3 : Ext [] W W3 := by rw [hW3]; exact HX2.out.alloc _
  have hR3 : IsR W3 b t1 := by rw [hW3]; exact HR2.out.keep ((Ext.refl [] w2).alloc _) (by simp)
  have hbM : b < M := by rw [hM]; exact HR2.out.lt
  rw [← hW3, ← hM]
  have hWM : W.heap.size ≤ M := by rw [hM]; exact HX2.out.size
  have HBM := Hid.of hBM
  have HX3 := Hid.of hX3
  have HR3 := Hid.of hR3
  have HBP := Hid.of (Blk.new W3 83 #[.pointer (some ⟨M, 1, none⟩), .pointer (some ⟨M, 2, none⟩), .pointer (some ⟨M, 3, none⟩), .pointer (some ⟨M, 4, none⟩), .pointer (some ⟨M, 5, none⟩), .pointer (some ⟨M, 6, none⟩), .pointer (some ⟨M, 7, none⟩)])
  have hMl := hBM.lt
  clear hW3 hM hBM hX3 hR3
  go_wp2
  go_loopw [22] (fun u22 wr => ∃ (k : Nat), u22 = .int .i64 (k : Int) ∧ k ≤ 7 ∧ Hid (IsR wr b (repR (numR 281474976710655) k t1).2) ∧ Hid (Blk wr M 36 (headC K (repR (numR 281474976710655) k t1).1 k ++ tailC)) ∧ Hid (Blk wr W3.heap.size 83 [.pointer (some ⟨M, 1, none⟩), .pointer (some ⟨M, 2, none⟩), .pointer (some ⟨M, 3, none⟩), .pointer (some ⟨M, 4, none⟩), .pointer (some ⟨M, 5, none⟩), .pointer (some ⟨M, 6, none⟩), .pointer (some ⟨M, 7, none⟩)]) ∧ Hid (Ext [] W wr)) (fun u22 _ => 7 - (intOf u22).toNat)
  case atStart => exact ⟨0, rfl, by omega, HR3.out.keep ((Ext.refl [] W3).alloc _) (by simp), HBM.out.alloc _, HBP.out, HX3.out.alloc _⟩
  case round =>
    obtain ⟨k, rfl, hk, hR, hB, hP, hX⟩ := hrel
    have hFl : ((repR (numR 281474976710655) k t1).2).1.length ≤ 1000000 := Nat.le_trans (repR_len _ (numR_len _) k t1) hl1
    by_cases hlt : k < 7
    · have cp : wr.cell? ⟨W3.heap.size, k, none⟩ = some (.pointer (some ⟨M, 1 + k, none⟩)) := by
        rw [hP.out.c k]
        rcases (show k = 0 ∨ k = 1 ∨ k = 2 ∨ k = 3 ∨ k = 4 ∨ k = 5 ∨ k = 6 by omega) with rfl | rfl | rfl | rfl | rfl | rfl | rfl <;> rfl
      have cn := rnum_any b 281474976710655 _ wr hR.out (by omega)
      have hsn := repR_snoc (numR 281474976710655) k t1
      have hcnt := repR_count (numR 281474976710655) k t1
      generalize repR (numR 281474976710655) k t1 = F at cn hsn hcnt hR hB hFl
      generalize hx : numR 281474976710655 F.2 = x at cn hsn
      have HSN := Hid.of hsn
      have HC := Hid.of hcnt
      clear hsn hcnt hx
      go_wp2_with ((go_at_call 35; (with_reducible refine cn.mono ?_); rintro e w5 ⟨rfl, hR5, hx5⟩; have hB5 := hB.out.keep hx5 (by simp; omega); have q0 : ∃ v, w5.cell? ⟨M, 1 + k, none⟩ = some v := ⟨_, by rw [hB5.c (1 + k)]; exact List.getElem?_eq_getElem (by rw [headtail_len _ _ _ HC.out hk]; omega)⟩; obtain ⟨v5, q0⟩ := q0; have q1 : w5.frozen? ⟨M, 1 + k, none⟩ = false := hB5.f (1 + k); have HB5 := Hid.of hB5; have HR5 := Hid.of hR5; have HX5 := Hid.of hx5; clear hR5 hx5 hB5 cn))
      refine ⟨⟨k + 1, by congr 1, by omega, ?_, ?_, ?_, ?_⟩, by simp [intOf]; omega⟩
      · show IsR _ _ _
        rw [HSN.out]
        exact HR5.out.keep ((Ext.refl [M] w5).setCell (.inl (by simp)) _) (by simp; omega)
      · show Blk _ _ _ _
        rw [HSN.out]
        have := HB5.out.set (1 + k) (.int .i64 x.1)
        rwa [headC_set _ _ _ _ HC.out hlt] at this
      · exact (hP.out.keep HX5.out (by simp; omega)).keep ((Ext.refl [M] w5).setCell (.inl (by simp)) _) (by simp; omega)
      · exact (hX.out.trans HX5.out (fun z hz => .inr (by rw [← HB.out]; simp at hz; omega))).setCell (.inr hWM) _
    · obtain rfl : k = 7 := by omega
      obtain ⟨Fs, hFs⟩ : ∃ x, x = (repR (numR 281474976710655) 7 t1).1 := ⟨_, rfl⟩
      obtain ⟨t2, ht2⟩ : ∃ x, x = (repR (numR 281474976710655) 7 t1).2 := ⟨_, rfl⟩
      have hc7 : Fs.length = 7 := by rw [hFs]; exact repR_count _ _ _
      have hR' := hR.out
      have hB' := hB.out
      rw [← ht2] at hR' hFl
      rw [← hFs] at hB'
      have HFS := Hid.of hFs
      have HT2 := Hid.of ht2
      clear hFs ht2 hR hB hP
      obtain ⟨f1, f2, f3, f4, f5, f6, f7, rfl⟩ : ∃ a b c d e f g, Fs = [a, b, c, d, e, f, g] := by
        match Fs, hc7 with
        | [a, b, c, d, e, f, g], _ => exact ⟨a, b, c, d, e, f, g, rfl⟩
      rw [headC_full] at hB'
      obtain ⟨n, hn⟩ : ∃ x, x = (numR 4 t2).1 := ⟨_, rfl⟩
      obtain ⟨t3, ht3⟩ : ∃ x, x = (numR 4 t2).2 := ⟨_, rfl⟩
      have hn04 : 0 ≤ n ∧ n ≤ 4 := by rw [hn]; exact numR_rng _ _ (by decide)
      have hl3 : t3.1.length ≤ 1000000 := by rw [ht3]; exact Nat.le_trans (numR_len _ _) hFl
      have cn := rnum_any b 4 t2 wr hR' (by omega)
      rw [← hn, ← ht3] at cn
      have HN := Hid.of hn
      have HT3 := Hid.of ht3
      obtain ⟨N, hNn⟩ : ∃ N : Nat, n = (N : Int) := ⟨n.toNat, by omega⟩
      have HNN := Hid.of hNn
      have hN4 : N ≤ 4 := by omega
      have HBr := Hid.of hB'
      rw [hNn] at cn
      clear hn ht3 hB' hR' hFl hc7 hNn hn04
      go_wp2_with ((go_at_call 35; (with_reducible refine cn.mono ?_); rintro e w5 ⟨rfl, hR5, hx5⟩; have HB5 := Hid.of (HBr.out.keep hx5 (by simp; omega)); have HR5 := Hid.of hR5; have HX5 := Hid.of (hX.out.trans hx5 (fun z hz => .inr (by rw [← HB.out]; simp at hz; omega))); clear hR5 hx5 cn))
      go_loopw [33] (fun u33 wr => ∃ (j : Nat) (v : Value), u33 = .int .i64 (j : Int) ∧ j ≤ N ∧ Hid (IsR wr b (repR entR j t3).2) ∧ Hid (Blk wr M 36 [.int .i64 K, .int .i64 f1, .int .i64 f2, .int .i64 f3, .int .i64 f4, .int .i64 f5, .int .i64 f6, .int .i64 f7, v, .bool false, .int .i64 0, .int .i64 0, .int .i64 0, .int .i64 0, .slice none 0 0, .int .i64 0, .string ByteArray.empty]) ∧ Hid (Own wr 60 3 v j ((repR entR j t3).1.flatMap En.cells)) ∧ Hid (∀ z ∈ vblocks v, M < z) ∧ Hid (Ext [] W wr)) (fun u33 _ => N - (intOf u33).toNat)
      case atStart => exact ⟨0, .slice none 0 0, rfl, by omega, HR5.out, HB5.out, Own.nil _ _ _, fun z hz => by simp [vblocks] at hz, HX5.out⟩
      case round =>
        obtain ⟨j, v, rfl, hj, hR, hB, hO, hV, hX2⟩ := hrel
        have hEl : ((repR entR j t3).2).1.length ≤ 1000000 := Nat.le_trans (repR_len _ entR_len j t3) hl3
        by_cases hlt : j < N
        · have hsn := repR_snoc entR j t3
          have hcnt := repR_count entR j t3
          generalize repR entR j t3 = F at hsn hcnt hR hO hEl
          obtain ⟨FL, FSt⟩ := F
          simp only at hsn hcnt hEl
          generalize hx1 : numR 281474976710655 FSt = x1
          generalize hx2 : numR 281474976710655 x1.2 = x2
          generalize hx3 : textR 488 x2.2 = x3
          have hen : entR FSt = (⟨x1.1, x2.1, x3.1⟩, x3.2) := by rw [← hx3, ← hx2, ← hx1]; rfl
          rw [hen] at hsn
          have g1l : x1.2.1.length ≤ 1000000 := by rw [← hx1]; exact Nat.le_trans (numR_len _ _) hEl
          have g2l : x2.2.1.length ≤ 1000000 := by rw [← hx2]; exact Nat.le_trans (numR_len _ _) g1l
          obtain ⟨y1, s1⟩ := x1
          obtain ⟨y2, s2⟩ := x2
          obtain ⟨y3, s3⟩ := x3
          simp only at hsn g1l g2l hx2 hx3
          have HSN := Hid.of hsn
          have HX1 := Hid.of hx1
          have HX2 := Hid.of hx2
          have HX3' := Hid.of hx3
          have cn1 := rnum_any b 281474976710655 FSt wr.drew (hR.out.keep (Ext.refl [] wr).drew (by simp)) (by omega)
          rw [hx1] at cn1
          have hB0 := hB.out.keep (Ext.refl [] wr).drew (by simp)
          have c80 : wr.drew.cell? ⟨M, 8, none⟩ = some v := hB0.c 8
          have HB0 := Hid.of hB0
          have hX0 := Hid.of (hX2.out.then0 (Ext.refl [] wr).drew)
          have hO0 := Hid.of (hO.out.keep (Ext.refl [] wr).drew (by simp))
          have hvb : b ∉ vblocks v := fun hm => by have := hV.out _ hm; omega
          have HVb := Hid.of hvb
          clear hsn hx1 hx2 hx3 hen hB0 hvb hcnt
          go_wp2_with fail
          go_region_law (first
            | (refine step_calls rfl 35 _ _ rfl ent_num #[.pointer (some ⟨b, 0, none⟩), .int .i64 281474976710655] (by first | (simp [Act.eval]; done) | (simp [Act.eval, Act.put]; done)) cn1 ?_; rintro e w5 ⟨rfl, hR5, hx5⟩; refine ⟨_, rfl, ?_⟩; have c81 : w5.cell? ⟨M, 8, none⟩ = some v := (HB0.out.keep hx5 (by simp; omega)).c 8; have cn2 := rnum_any b 281474976710655 s1 w5 hR5 (by omega); rw [HX2.out] at cn2; have HX5 := Hid.of hx5; clear hx5 hR5 cn1)
            | (refine step_calls rfl 35 _ _ rfl ent_num #[.pointer (some ⟨b, 0, none⟩), .int .i64 281474976710655] (by first | (simp [Act.eval]; done) | (simp [Act.eval, Act.put]; done)) cn2 ?_; rintro e w6 ⟨rfl, hR6, hx6⟩; refine ⟨_, rfl, ?_⟩; have HX6 := Hid.of (HX5.out.trans hx6 (fun z hz => .inl hz)); have c82 : w6.cell? ⟨M, 8, none⟩ = some v := (HB0.out.keep HX6.out (by simp; omega)).c 8; have cn3 := rtext_any b 488 s2 w6 hR6 (by omega); rw [HX3'.out] at cn3; clear hx6 hR6 cn2)
            | (refine step_calls rfl 36 _ _ rfl ent_text #[.pointer (some ⟨b, 0, none⟩), .int .i64 488] (by first | (simp [Act.eval]; done) | (simp [Act.eval, Act.put]; done)) cn3 ?_; rintro e w7 ⟨rfl, hR7, hx7⟩; refine ⟨_, rfl, ?_⟩; have HX7 := Hid.of (HX6.out.trans hx7 (fun z hz => .inl hz)); have c83 : w7.cell? ⟨M, 8, none⟩ = some v := (HB0.out.keep HX7.out (by simp; omega)).c 8; have HR7 := Hid.of hR7; have hMw7 : M < w7.heap.size := (HB0.out.keep HX7.out (by simp; omega)).lt; have hOw := ((hO0.out.keep HX7.out (fun z hz => by simp; intro e; exact HVb.out (e ▸ hz))).alloc (.cells #[.int .i64 y1, .int .i64 y2, str y3] 60)); have hRd := Rd.lit w7 #[.int .i64 y1, .int .i64 y2, str y3] 60 3 1 rfl (by unfold maxLen; omega); clear hx7 hR7 cn3)
            | (refine step_append rfl _ _ _ rfl 60 _ 3 32 el_ents v j (FL.flatMap En.cells) rfl hOw (.slice (some ⟨w7.heap.size, 0, none⟩) 1 1) 1 _ rfl hRd (by intro u hu; simp at hu; rcases hu with rfl | rfl | rfl <;> rfl) (by omega) (by unfold maxLen; omega) ?_; intro v8 w8 ho8 hx8 hv8; obtain ⟨a8, cp8, rfl⟩ := Rd.isSlice (Own.rd ho8); have hB8 := ((HB0.out.keep HX7.out (by simp; omega)).alloc (.cells #[.int .i64 y1, .int .i64 y2, str y3] 60)).keep hx8 (fun hm => by have := hV.out _ hm; omega); have c84 : w8.cell? ⟨M, 8, none⟩ = some v := hB8.c 8; have c85 : w8.frozen? ⟨M, 8, none⟩ = false := hB8.f 8; have HB8 := Hid.of hB8; have HO8 := Hid.of ho8; have HX8 := Hid.of hx8; have HV8 := Hid.of hv8; clear hB8 ho8 hx8 hv8 hOw hRd))
          all_goals (
            have hw7 := HX7.out.size
            have hM7 : M < w7.heap.size := by have := HB0.out.lt; simp at hw7; simp at this; omega
            have hV8 : ∀ z ∈ vblocks (.slice a8 (j + 1) cp8), M < z := fun z hz => by
              rcases HV8.out with h | h
              · rw [h] at hz; exact hV.out z hz
              · rw [h] at hz; simp at hz; omega
            have hset : Ext [M] w8 (w8.setCell ⟨M, 8, none⟩ (.slice a8 (j + 1) cp8)) := (Ext.refl [M] w8).setCell (.inl (by simp)) _
            have hX8' : Ext [] W w8 := ((hX0.out.trans HX7.out (fun z hz => .inr (by rw [← HB.out]; simp at hz; omega))).alloc _).trans HX8.out (fun z hz => .inr (by have := hV.out z hz; omega))
            have hR8 := (HR7.out.keep ((Ext.refl [] w7).alloc _) (by simp)).keep HX8.out (fun hm => HVb.out hm)
            have hB9 := HB8.out.set 8 (.slice a8 (j + 1) cp8)
            have HR9 := Hid.of (hR8.keep hset (by simp; omega))
            have HB9 := Hid.of hB9
            have HO9 := Hid.of (HO8.out.keep hset (fun z hz => by have := hV8 z hz; simp; omega))
            have HV9 := Hid.of hV8
            have HX9 := Hid.of (hX8'.setCell (.inr hWM) (.slice a8 (j + 1) cp8) (p := ⟨M, 8, none⟩))
            clear hw7 hM7 hV8 hset hX8' hR8 hB9 c80 c81 c82 c83 c84 c85
            go_wp2
            exact ⟨⟨j + 1, .slice a8 (j + 1) cp8, by congr 1, by omega, show IsR _ _ _ by rw [HSN.out]; exact HR9.out, HB9.out, show Own _ _ _ _ _ _ by rw [HSN.out, List.flatMap_append]; exact HO9.out, HV9.out, HX9.out⟩, by simp [intOf]; omega⟩)
        · obtain rfl : j = N := by omega
          have hcnt := repR_count entR j t3
          generalize hF : repR entR j t3 = F at hcnt hR hO hEl
          obtain ⟨Es, t4⟩ := F
          simp only at hcnt hEl
          have HF := Hid.of hF
          have HEC := Hid.of hcnt
          clear hF hcnt
          generalize ho1 : flagR t4 = x1
          obtain ⟨o1, t5⟩ := x1
          generalize hg1 : numR 3 t5 = x2
          obtain ⟨g1, t6⟩ := x2
          generalize hq1 : numR 281474976710655 t6 = x3
          obtain ⟨l1, t7⟩ := x3
          generalize hq2 : numR 281474976710655 t7 = x4
          obtain ⟨l2, t8⟩ := x4
          generalize hq3 : numR 281474976710655 t8 = x5
          obtain ⟨l3, t9⟩ := x5
          generalize hqc : numR 64 t9 = x6
          obtain ⟨qc, t10⟩ := x6
          have z5 : t5.1.length ≤ 1000000 := by have := flagR_len t4; rw [ho1] at this; exact Nat.le_trans this hEl
          have z6 : t6.1.length ≤ 1000000 := by have := numR_len 3 t5; rw [hg1] at this; exact Nat.le_trans this z5
          have z7 : t7.1.length ≤ 1000000 := by have := numR_len 281474976710655 t6; rw [hq1] at this; exact Nat.le_trans this z6
          have z8 : t8.1.length ≤ 1000000 := by have := numR_len 281474976710655 t7; rw [hq2] at this; exact Nat.le_trans this z7
          have z9 : t9.1.length ≤ 1000000 := by have := numR_len 281474976710655 t8; rw [hq3] at this; exact Nat.le_trans this z8
          have z10 : t10.1.length ≤ 1000000 := by have := numR_len 64 t9; rw [hqc] at this; exact Nat.le_trans this z9
          have hqr : 0 ≤ qc ∧ qc ≤ 64 := by have := numR_rng 64 t9 (by decide); rw [hqc] at this; exact this
          have cF := rflag_any b t4 wr hR.out (by omega)
          rw [ho1] at cF
          have HO1 := Hid.of ho1
          have HG1 := Hid.of hg1
          have HL1 := Hid.of hq1
          have HL2 := Hid.of hq2
          have HL3 := Hid.of hq3
          have HQ := Hid.of hqc
          have HBj := Hid.of hB.out
          obtain ⟨QC, hQC⟩ : ∃ q : Nat, qc = (q : Int) := ⟨qc.toNat, by omega⟩
          subst hQC
          have hQ64 : QC ≤ 64 := by omega
          have HOE := Hid.of hO.out
          have hVM : Hid (∀ z ∈ vblocks v, M < z) := hV
          have hnb : Hid (∀ z ∈ vblocks v, z ∉ [b]) := Hid.of (fun z hz => by have := hV.out z hz; simp; omega)
          have hnm : Hid (∀ z ∈ vblocks v, z ∉ [M]) := Hid.of (fun z hz => by have := hV.out z hz; simp; omega)
          clear ho1 hg1 hq1 hq2 hq3 hqc hR hB hO hV
          go_wp2_with (first
            | (go_at_call 37; (with_reducible refine cF.mono ?_); rintro e w5 ⟨rfl, hR5, hx5⟩; have HX5 := Hid.of (hX2.out.trans hx5 (fun z hz => .inr (by rw [← HB.out]; simp at hz; omega))); have HB5 := Hid.of (HBj.out.keep hx5 (by simp; omega)); have HO5 := Hid.of (HOE.out.keep hx5 hnb.out); have c2 := rnum_any b 3 t5 w5 hR5 (by omega); rw [HG1.out] at c2; clear hR5 hx5 cF)
            | (go_at_call 35; (with_reducible refine c2.mono ?_); rintro e w6 ⟨rfl, hR5, hx5⟩; have HX6 := Hid.of (HX5.out.trans hx5 (fun z hz => .inr (by rw [← HB.out]; simp at hz; omega))); have hB6 := HB5.out.keep hx5 (by simp; omega); have m9 : w6.cell? ⟨M, 9, none⟩ = some (.bool false) := hB6.c 9; have n9 : w6.frozen? ⟨M, 9, none⟩ = false := hB6.f 9; have m10 : w6.cell? ⟨M, 10, none⟩ = some (.int .i64 0) := hB6.c 10; have n10 : w6.frozen? ⟨M, 10, none⟩ = false := hB6.f 10; have HX7 := Hid.of ((HX6.out.setCell (.inr hWM) (.bool o1) (p := ⟨M, 9, none⟩)).setCell (.inr hWM) (.int .i64 g1) (p := ⟨M, 10, none⟩)); have HB7 : Hid (Blk ((w6.setCell ⟨M, 9, none⟩ (.bool o1)).setCell ⟨M, 10, none⟩ (.int .i64 g1)) M 36 [.int .i64 K, .int .i64 f1, .int .i64 f2, .int .i64 f3, .int .i64 f4, .int .i64 f5, .int .i64 f6, .int .i64 f7, v, .bool o1, .int .i64 g1, .int .i64 0, .int .i64 0, .int .i64 0, .slice none 0 0, .int .i64 0, .string ByteArray.empty]) := (hB6.set 9 (.bool o1)).set 10 (.int .i64 g1); have c3 := rnum_any b 281474976710655 t6 ((w6.setCell ⟨M, 9, none⟩ (.bool o1)).setCell ⟨M, 10, none⟩ (.int .i64 g1)) ((hR5.keep ((Ext.refl [M] w6).setCell (.inl (by simp)) _) (by simp; omega)).keep ((Ext.refl [M] _).setCell (.inl (by simp)) _) (by simp; omega)) (by omega); rw [HL1.out] at c3; clear hB6; have HO7 := Hid.of (((HO5.out.keep hx5 hnb.out).keep ((Ext.refl [M] w6).setCell (.inl (by simp)) (.bool o1) (p := ⟨M, 9, none⟩)) hnm.out).keep ((Ext.refl [M] _).setCell (.inl (by simp)) (.int .i64 g1) (p := ⟨M, 10, none⟩)) hnm.out); clear hR5 hx5 c2)
            | (go_at_call 35; (with_reducible refine c3.mono ?_); rintro e w8 ⟨rfl, hR5, hx5⟩; have HX8 := Hid.of (HX7.out.trans hx5 (fun z hz => .inr (by rw [← HB.out]; simp at hz; omega))); have HB8 := Hid.of (HB7.out.keep hx5 (by simp; omega)); have HO8 := Hid.of (HO7.out.keep hx5 hnb.out); have c4 := rnum_any b 281474976710655 t7 w8 hR5 (by omega); rw [HL2.out] at c4; clear hR5 hx5 c3)
            | (go_at_call 35; (with_reducible refine c4.mono ?_); rintro e w9 ⟨rfl, hR5, hx5⟩; have HX9 := Hid.of (HX8.out.trans hx5 (fun z hz => .inr (by rw [← HB.out]; simp at hz; omega))); have HB9 := Hid.of (HB8.out.keep hx5 (by simp; omega)); have HO9 := Hid.of (HO8.out.keep hx5 hnb.out); have c5 := rnum_any b 281474976710655 t8 w9 hR5 (by omega); rw [HL3.out] at c5; clear hR5 hx5 c4)
            | (go_at_call 35; (with_reducible refine c5.mono ?_); rintro e w10 ⟨rfl, hR5, hx5⟩; have HX10 := Hid.of (HX9.out.trans hx5 (fun z hz => .inr (by rw [← HB.out]; simp at hz; omega))); have hB6 := HB9.out.keep hx5 (by simp; omega); have m11 : w10.cell? ⟨M, 11, none⟩ = some (.int .i64 0) := hB6.c 11; have n11 : w10.frozen? ⟨M, 11, none⟩ = false := hB6.f 11; have m12 : w10.cell? ⟨M, 12, none⟩ = some (.int .i64 0) := hB6.c 12; have n12 : w10.frozen? ⟨M, 12, none⟩ = false := hB6.f 12; have m13 : w10.cell? ⟨M, 13, none⟩ = some (.int .i64 0) := hB6.c 13; have n13 : w10.frozen? ⟨M, 13, none⟩ = false := hB6.f 13; have m14 : w10.cell? ⟨M, 14, none⟩ = some (.slice none 0 0) := hB6.c 14; have n14 : w10.frozen? ⟨M, 14, none⟩ = false := hB6.f 14; have HX11 := Hid.of ((((HX10.out.setCell (.inr hWM) (.int .i64 l1) (p := ⟨M, 11, none⟩)).setCell (.inr hWM) (.int .i64 l2) (p := ⟨M, 12, none⟩)).setCell (.inr hWM) (.int .i64 l3) (p := ⟨M, 13, none⟩)).setCell (.inr hWM) (.slice none 0 0) (p := ⟨M, 14, none⟩)); have HB11 : Hid (Blk ((((w10.setCell ⟨M, 11, none⟩ (.int .i64 l1)).setCell ⟨M, 12, none⟩ (.int .i64 l2)).setCell ⟨M, 13, none⟩ (.int .i64 l3)).setCell ⟨M, 14, none⟩ (.slice none 0 0)) M 36 [.int .i64 K, .int .i64 f1, .int .i64 f2, .int .i64 f3, .int .i64 f4, .int .i64 f5, .int .i64 f6, .int .i64 f7, v, .bool o1, .int .i64 g1, .int .i64 l1, .int .i64 l2, .int .i64 l3, .slice none 0 0, .int .i64 0, .string ByteArray.empty]) := (((hB6.set 11 (.int .i64 l1)).set 12 (.int .i64 l2)).set 13 (.int .i64 l3)).set 14 (.slice none 0 0); have c6 := rnum_any b 64 t9 ((((w10.setCell ⟨M, 11, none⟩ (.int .i64 l1)).setCell ⟨M, 12, none⟩ (.int .i64 l2)).setCell ⟨M, 13, none⟩ (.int .i64 l3)).setCell ⟨M, 14, none⟩ (.slice none 0 0)) ((((hR5.keep ((Ext.refl [M] w10).setCell (.inl (by simp)) _) (by simp; omega)).keep ((Ext.refl [M] _).setCell (.inl (by simp)) _) (by simp; omega)).keep ((Ext.refl [M] _).setCell (.inl (by simp)) _) (by simp; omega)).keep ((Ext.refl [M] _).setCell (.inl (by simp)) _) (by simp; omega)) (by omega); rw [HQ.out] at c6; clear hB6; have HO11 := Hid.of (((((HO9.out.keep hx5 hnb.out).keep ((Ext.refl [M] w10).setCell (.inl (by simp)) (.int .i64 l1) (p := ⟨M, 11, none⟩)) hnm.out).keep ((Ext.refl [M] _).setCell (.inl (by simp)) (.int .i64 l2) (p := ⟨M, 12, none⟩)) hnm.out).keep ((Ext.refl [M] _).setCell (.inl (by simp)) (.int .i64 l3) (p := ⟨M, 13, none⟩)) hnm.out).keep ((Ext.refl [M] _).setCell (.inl (by simp)) (.slice none 0 0) (p := ⟨M, 14, none⟩)) hnm.out); clear hR5 hx5 c5)
            | (go_at_call 35; (with_reducible refine c6.mono ?_); rintro e w12 ⟨rfl, hR5, hx5⟩; have HX12 := Hid.of (HX11.out.trans hx5 (fun z hz => .inr (by rw [← HB.out]; simp at hz; omega))); have HB12 := Hid.of (HB11.out.keep hx5 (by simp; omega)); have HR12 := Hid.of hR5; have HO12 := Hid.of (HO11.out.keep hx5 hnb.out); clear hR5 hx5 c6))
          clear HX5 HX6 HX7 HX8 HX9 HX10 HX11 HB5 HB7 HB8 HB9 HB11 HO5 HO7 HO8 HO9 HO11
          obtain ⟨Z2, hZ2⟩ : ∃ x, x = w12.heap.size := ⟨_, rfl⟩
          have hMZ : M < Z2 := by rw [hZ2]; exact HB12.out.lt
          have hvz : Hid (∀ z ∈ vblocks v, z < Z2) := Hid.of (by rw [hZ2]; exact HO12.out.lt)
          have hZ2' : Z2 ≤ w12.heap.size := by omega
          clear hZ2
          go_loopw [64] (fun u64 wr => ∃ (i : Nat) (v2 : Value), u64 = .int .i64 (i : Int) ∧ i ≤ QC ∧ Hid (IsR wr b (repR u32R i t10).2) ∧ Hid (Blk wr M 36 [.int .i64 K, .int .i64 f1, .int .i64 f2, .int .i64 f3, .int .i64 f4, .int .i64 f5, .int .i64 f6, .int .i64 f7, v, .bool o1, .int .i64 g1, .int .i64 l1, .int .i64 l2, .int .i64 l3, v2, .int .i64 0, .string ByteArray.empty]) ∧ Hid (Own wr 64 1 v2 i (u32s (repR u32R i t10).1)) ∧ Hid (∀ z ∈ vblocks v2, Z2 ≤ z) ∧ Hid (Own wr 60 3 v j (Es.flatMap En.cells)) ∧ Hid (Ext [] W wr) ∧ Z2 ≤ wr.heap.size) (fun u64 _ => QC - (intOf u64).toNat)
          case atStart => exact ⟨0, .slice none 0 0, rfl, by omega, HR12.out, HB12.out, Own.nil _ _ _, fun z hz => by simp [vblocks] at hz, HO12.out, HX12.out, by omega⟩
          case round =>
            obtain ⟨i, v2, rfl, hi, hR, hB, hO, hV, hE, hX3, hZs⟩ := hrel
            have hEl2 : ((repR u32R i t10).2).1.length ≤ 1000000 := Nat.le_trans (repR_len _ u32R_len i t10) z10
            by_cases hlt : i < QC
            · have hsn := repR_snoc u32R i t10
              generalize repR u32R i t10 = F at hsn hR hO hEl2
              obtain ⟨FL, FSt⟩ := F
              simp only at hsn hEl2
              generalize hx1 : numR 4294967295 FSt = x1
              obtain ⟨y1, s1⟩ := x1
              have hy : 0 ≤ y1 ∧ y1 ≤ 4294967295 := by have := numR_rng 4294967295 FSt (by decide); rw [hx1] at this; exact this
              obtain ⟨c, hc⟩ : ∃ c : UInt32, y1 = (c.toNat : Int) := ⟨UInt32.ofNat y1.toNat, by rw [UInt32.toNat_ofNat']; omega⟩
              have hen : u32R FSt = (c, s1) := by
                unfold u32R mapR
                rw [hx1, hc]
                simp
              subst hc
              rw [hen] at hsn
              have HSN := Hid.of hsn
              have hR := Hid.of (hR.out.keep (Ext.refl [] wr).drew (by simp))
              have hB := Hid.of (hB.out.keep (Ext.refl [] wr).drew (by simp))
              have hO := Hid.of (hO.out.keep (Ext.refl [] wr).drew (by simp))
              have hE := Hid.of (hE.out.keep (Ext.refl [] wr).drew (by simp))
              have hX3 := Hid.of (hX3.out.then0 (Ext.refl [] wr).drew)
              have hZs : Z2 ≤ wr.drew.heap.size := hZs
              have cn1 := rnum_any b 4294967295 FSt wr.drew hR.out (by omega)
              rw [hx1] at cn1
              have c80 : wr.drew.cell? ⟨M, 14, none⟩ = some v2 := hB.out.c 14
              have hbv : b ∉ vblocks v2 := fun hm => by have := hV.out _ hm; omega
              have hMv : M ∉ vblocks v2 := fun hm => by have := hV.out _ hm; omega
              have hbM' : b ≠ M := by omega
              have hcv := cvU c
              have hdj : Hid (∀ z ∈ vblocks v, z ∉ vblocks v2) := Hid.of (fun z hz hm => by have := hV.out _ hm; have := hvz.out _ hz; omega)
              clear hsn hx1 hen hy
              go_wp2_with fail
              go_region_law (first
                | (refine step_calls rfl 35 _ _ rfl ent_num #[.pointer (some ⟨b, 0, none⟩), .int .i64 4294967295] (by first | (simp [Act.eval]; done) | (simp [Act.eval, Act.put]; done)) cn1 ?_; rintro e w5 ⟨rfl, hR5, hx5⟩; refine ⟨_, rfl, ?_⟩; have hB5 := hB.out.keep hx5 (by simp; omega); have c81 : w5.cell? ⟨M, 14, none⟩ = some v2 := hB5.c 14; have c82 : (w5.alloc (.cells #[.int .u32 (c.toNat : Int)] 64)).cell? ⟨M, 14, none⟩ = some v2 := (hB5.alloc _).c 14; have HB5 := Hid.of hB5; have HX5 := Hid.of (hX3.out.trans hx5 (fun z hz => .inr (by rw [← HB.out]; simp at hz; omega))); have HO5 := Hid.of (hE.out.keep hx5 hnb.out); have HR5 := Hid.of hR5; have hOw := ((hO.out.keep hx5 (fun z hz => by simp; intro e; exact hbv (e ▸ hz))).alloc (.cells #[.int .u32 (c.toNat : Int)] 64)); have hRd := Rd.lit w5 #[.int .u32 (c.toNat : Int)] 64 1 1 rfl (by unfold maxLen; omega); have hZ5 := hx5.size; clear hx5 hR5 hB5 cn1)
                | (refine step_append rfl _ _ _ rfl 64 _ 1 4 el_sums v2 i (u32s FL) rfl hOw (.slice (some ⟨w5.heap.size, 0, none⟩) 1 1) 1 _ rfl hRd (by intro u hu; simp at hu; rcases hu with rfl; rfl) (by omega) (by unfold maxLen; omega) ?_; intro v8 w8 ho8 hx8 hv8; obtain ⟨a8, cp8, rfl⟩ := Rd.isSlice (Own.rd ho8); have hB8 := (HB5.out.alloc (.cells #[.int .u32 (c.toNat : Int)] 64)).keep hx8 hMv; have c84 : w8.cell? ⟨M, 14, none⟩ = some v2 := hB8.c 14; have c85 : w8.frozen? ⟨M, 14, none⟩ = false := hB8.f 14; have HB8 := Hid.of hB8; have HO8 := Hid.of ho8; have HX8 := Hid.of hx8; have HV8 := Hid.of hv8; clear hB8 ho8 hx8 hv8 hOw hRd))
              all_goals (
                have hw8 := HX8.out.size
                have hV8 : ∀ z ∈ vblocks (.slice a8 (i + 1) cp8), Z2 ≤ z := fun z hz => by
                  rcases HV8.out with h | h
                  · rw [h] at hz; exact hV.out z hz
                  · rw [h] at hz; simp at hz; omega
                have hset : Ext [M] w8 (w8.setCell ⟨M, 14, none⟩ (.slice a8 (i + 1) cp8)) := (Ext.refl [M] w8).setCell (.inl (by simp)) _
                have hX8' : Ext [] W w8 := (HX5.out.alloc _).trans HX8.out (fun z hz => .inr (by have := hV.out z hz; omega))
                have hR8 := (HR5.out.keep ((Ext.refl [] w5).alloc _) (by simp)).keep HX8.out hbv
                have hB9 := HB8.out.set 14 (.slice a8 (i + 1) cp8)
                have HR9 := Hid.of (hR8.keep hset (by simp; omega))
                have HB9 := Hid.of hB9
                have HO9 := Hid.of (HO8.out.keep hset (fun z hz => by have := hV8 z hz; simp; omega))
                have HE9 := Hid.of (((HO5.out.alloc _).keep HX8.out hdj.out).keep hset hnm.out)
                have HV9 := Hid.of hV8
                have HX9 := Hid.of (hX8'.setCell (.inr hWM) (.slice a8 (i + 1) cp8) (p := ⟨M, 14, none⟩))
                have hs9 : Z2 ≤ (w8.setCell ⟨M, 14, none⟩ (.slice a8 (i + 1) cp8)).heap.size := by
                  have h1 := hset.size
                  simp at hw8
                  omega
                clear hw8 hV8 hset hX8' hR8 c80 c81 c82 c84 c85
                go_wp2
                exact ⟨⟨i + 1, .slice a8 (i + 1) cp8, by congr 1, by omega, show IsR _ _ _ by rw [HSN.out]; exact HR9.out, HB9.out, show Own _ _ _ _ _ _ by rw [HSN.out]; unfold u32s; rw [List.map_append]; exact HO9.out, HV9.out, HE9.out, HX9.out, hs9⟩, by simp [intOf]; omega⟩)
            · obtain rfl : i = QC := by omega
              generalize hS : repR u32R i t10 = F at hR hO hEl2
              obtain ⟨Ss, t11⟩ := F
              simp only at hEl2
              generalize hp1 : numR 281474976710655 t11 = x7
              obtain ⟨p, t12⟩ := x7
              generalize hd1 : textR 400 t12 = x8
              obtain ⟨d, t13⟩ := x8
              have z12 : t12.1.length ≤ 1000000 := by have := numR_len 281474976710655 t11; rw [hp1] at this; exact Nat.le_trans this hEl2
              have hJ : msgR (s, false) = ((K, [f1, f2, f3, f4, f5, f6, f7], Es, o1, g1, [l1, l2, l3], Ss, p, d), t13) :=
                msg_join (Prod.ext HK.out.symm HT1.out.symm) (Prod.ext HFS.out.symm HT2.out.symm) (Prod.ext (HN.out.symm.trans HNN.out) HT3.out.symm) HF.out HO1.out HG1.out HL1.out HL2.out HL3.out HQ.out hS hp1 hd1
              have rp : 0 ≤ p ∧ p ≤ 281474976710655 := by have := numR_rng 281474976710655 t11 (by decide); rw [hp1] at this; exact this
              have rd : (d.length : Int) ≤ 400 := by have := textR_rng 400 t12 (by decide); rw [hd1] at this; exact this
              have rl1 : 0 ≤ l1 ∧ l1 ≤ 281474976710655 := by have := numR_rng 281474976710655 t6 (by decide); rw [HL1.out] at this; exact this
              have rl2 : 0 ≤ l2 ∧ l2 ≤ 281474976710655 := by have := numR_rng 281474976710655 t7 (by decide); rw [HL2.out] at this; exact this
              have rl3 : 0 ≤ l3 ∧ l3 ≤ 281474976710655 := by have := numR_rng 281474976710655 t8 (by decide); rw [HL3.out] at this; exact this
              have rg : 0 ≤ g1 ∧ g1 ≤ 3 := by have := numR_rng 3 t5 (by decide); rw [HG1.out] at this; exact this
              have rf : ∀ x ∈ [f1, f2, f3, f4, f5, f6, f7], 0 ≤ x ∧ x ≤ 281474976710655 := by rw [HFS.out]; exact repR_all _ _ (fun st => numR_rng _ st (by decide)) _ _
              have re : ∀ e ∈ Es, e.ok := by have := repR_all entR En.ok entR_ok j t3; rw [HF.out] at this; exact this
              obtain ⟨va, vc, rfl⟩ := Rd.isSlice (Own.rd hE.out)
              obtain ⟨sa, sc, rfl⟩ := Rd.isSlice (Own.rd hO.out)
              have HEs := Hid.of (show Es.length ≤ 1000 by have h := HEC.out; omega)
              obtain ⟨mm, hmm⟩ : ∃ m, m = (⟨K, f1, f2, f3, f4, f5, f6, f7, va, j, vc, o1, g1, l1, l2, l3, sa, i, sc, p, d⟩ : Ms) := ⟨_, rfl⟩
              have HMM := Hid.of hmm.symm
              have hAt : Hid (∀ w', Own w' 60 3 (.slice va j vc) j (Es.flatMap En.cells) → Own w' 64 1 (.slice sa i sc) i (u32s Ss) → MsAt w' mm Es Ss) := by
                refine Hid.of fun w' h1 h2 => ?_
                subst hmm
                simp only [List.mem_cons, List.not_mem_nil, or_false, forall_eq_or_imp, forall_eq] at rf
                refine ⟨?_, by show d.length ≤ maxLen; unfold maxLen; omega, h1.rd, re, h2.rd⟩
                unfold I64
                simp only
                omega
              have HMV : Hid (mv mm Es Ss = (K, [f1, f2, f3, f4, f5, f6, f7], Es, o1, g1, [l1, l2, l3], Ss, p, d)) := by subst hmm; exact rfl
              have HMK : Hid (mm.kind = K) := by subst hmm; exact rfl
              have HJ := Hid.of hJ
              have HD1 := Hid.of hd1
              have cn1 := rnum_any b 281474976710655 t11 wr hR.out (by omega)
              rw [hp1] at cn1
              have hnb2 : Hid (∀ z ∈ vblocks (.slice sa i sc), z ∉ [b]) := Hid.of (fun z hz => by have := hV.out z hz; simp; omega)
              have hnm2 : Hid (∀ z ∈ vblocks (.slice sa i sc), z ∉ [M]) := Hid.of (fun z hz => by have := hV.out z hz; simp; omega)
              have hnmZ : ∀ z, z ∈ vblocks (.slice va j vc) ∨ z ∈ vblocks (.slice sa i sc) → M ≤ z := by
                rintro z (hz | hz)
                · exact Nat.le_of_lt (hVM.out z hz)
                · have := hV.out z hz; omega
              have hzm : Hid (∀ w1 w2, MsAt w1 mm Es Ss → Ext [Z] w1 w2 → MsAt w2 mm Es Ss) := by
                refine Hid.of fun w1 w2 h hx => ?_
                subst hmm
                have hZl := HBZ.out.lt
                exact ⟨h.nums, h.data, h.ents.keep hx (fun z hz => by have := hnmZ z (.inl hz); simp; omega), h.entsok, h.sums.keep hx (fun z hz => by have := hnmZ z (.inr hz); simp; omega)⟩
              have hb0 : ∀ W, (Instr.build 36 #[]).run Try.prog W = .ok (.agg Ms.zero.cells.toArray) W := fun W => by kernel_rfl
              clear hS hp1 hd1 hmm hJ rf re
              by_cases hd : doneR t13 = 0
              · by_cases hr : RightM mm Es Ss
                · have hdr : Hid (decide (RightM mm Es Ss) = true) := Hid.of (decide_eq_true hr)
                  have HR := Hid.of hr
                  have HD := Hid.of hd
                  clear hr hd
                  go_wp2_with (go_at_call 35; (with_reducible refine cn1.mono ?_); rintro e w13 ⟨rfl, hR5, hx5⟩; have HX13 := Hid.of (hX3.out.trans hx5 (fun z hz => .inr (by rw [← HB.out]; simp at hz; omega))); have HB13 := Hid.of (hB.out.keep hx5 (by simp; omega)); have HO13 := Hid.of (hO.out.keep hx5 hnb2.out); have HE13 := Hid.of (hE.out.keep hx5 hnb.out); have ct := rtext_any b 400 t12 w13 hR5 (by omega); rw [HD1.out] at ct; clear hR5 hx5 cn1)
                  (go_at_call 36; (with_reducible refine ct.mono ?_); rintro e w14 ⟨rfl, hR5, hx5⟩; have hB14 := HB13.out.keep hx5 (by simp; omega); have m15 : w14.cell? ⟨M, 15, none⟩ = some (.int .i64 0) := hB14.c 15; have n15 : w14.frozen? ⟨M, 15, none⟩ = false := hB14.f 15; have m16 : w14.cell? ⟨M, 16, none⟩ = some (.string ByteArray.empty) := hB14.c 16; have n16 : w14.frozen? ⟨M, 16, none⟩ = false := hB14.f 16; have s1 : Ext [M] w14 ((w14.setCell ⟨M, 15, none⟩ (.int .i64 p)).setCell ⟨M, 16, none⟩ (str d)) := ((Ext.refl [M] w14).setCell (.inl (by simp)) _).setCell (.inl (by simp)) _; have HX15 := Hid.of ((HX13.out.trans hx5 (fun z hz => .inr (by rw [← HB.out]; simp at hz; omega))).trans s1 (fun z hz => .inr (by simp at hz; omega))); have hB15 : Blk ((w14.setCell ⟨M, 15, none⟩ (.int .i64 p)).setCell ⟨M, 16, none⟩ (str d)) M 36 mm.cells := (by rw [← HMM.out]; exact (hB14.set 15 (.int .i64 p)).set 16 (str d)); have HRow := Hid.of hB15.range; have HAt := Hid.of (hAt.out _ ((HE13.out.keep hx5 hnb.out).keep s1 hnm.out) ((HO13.out.keep hx5 hnb2.out).keep s1 hnm2.out)); have cR := right_any mm Es Ss _ HAt.out HEs.out; have HZ15 := Hid.of (HBZ.out.keep HX15.out (by simp)); have cD := rdone_any b t13 _ ((hR5.keep s1 (by simp; omega))); clear hB14 hB15 s1 hR5 hx5 ct)
                  go_wp2_with (first
                    | (rw [HD.out] at cD; go_at_call 38; (with_reducible refine cD.mono ?_); rintro e w16 ⟨rfl, rfl⟩; clear cD)
                    | (refine wpList_load_row_g (by first | rfl | (simp [Region.wanted, yielded]; done)) 36 _ rfl M 0 rfl mm.cells _ HRow.out Try.underlying36 rfl (by rw [mcells_len]; kernel_rfl) ?_)
                    | (rw [hdr.out] at cR; go_at_call 22; (with_reducible refine cR.mono ?_); rintro e w17 ⟨rfl, hx17⟩; have HX17 := Hid.of (HX15.out.then0 hx17); have HZ17 := Hid.of (HZ15.out.keep hx17 (by simp)); have HRow17 := Hid.of (Ext.range0 HRow.out hx17); have HAt17 := Hid.of (HAt.out.keep0 hx17); clear hx17 cR)
                    | (refine wpList_load_mid rfl 36 _ rfl M 0 rfl mm.cells _ HRow17.out Try.underlying36 rfl (by rw [mcells_len]; kernel_rfl) ?_)
                    | (refine wpList_store_mid rfl 36 _ _ rfl Z 0 mm.cells.toArray rfl rfl HZ17.out.there (by kernel_rfl) (mall _) ?_))
                  refine bodyPost_ret (results_row rfl _ _ Z mm.cells _ rfl (World.rangeAt_setCells_same _ _ _ _ HZ17.out.there) Try.underlying36 rfl (by kernel_rfl)) rfl ?_
                  exact ⟨(HXW.out.then0 HX17.out).setCells (.inr hZw) _ _, .inl ⟨by rw [HJ.out]; exact HD.out, by rw [HJ.out]; exact HMK.out ▸ HR.out.1.1, mm, Es, Ss, rfl, hzm.out _ _ HAt17.out ((Ext.refl [Z] w17).setCells (.inl (by simp)) _ _), by rw [HJ.out]; exact HMV.out⟩⟩
                · have hdr : Hid (decide (RightM mm Es Ss) = false) := Hid.of (decide_eq_false hr)
                  have HR := Hid.of hr
                  have HD := Hid.of hd
                  clear hr hd
                  go_wp2_with (go_at_call 35; (with_reducible refine cn1.mono ?_); rintro e w13 ⟨rfl, hR5, hx5⟩; have HX13 := Hid.of (hX3.out.trans hx5 (fun z hz => .inr (by rw [← HB.out]; simp at hz; omega))); have HB13 := Hid.of (hB.out.keep hx5 (by simp; omega)); have HO13 := Hid.of (hO.out.keep hx5 hnb2.out); have HE13 := Hid.of (hE.out.keep hx5 hnb.out); have ct := rtext_any b 400 t12 w13 hR5 (by omega); rw [HD1.out] at ct; clear hR5 hx5 cn1)
                  (go_at_call 36; (with_reducible refine ct.mono ?_); rintro e w14 ⟨rfl, hR5, hx5⟩; have hB14 := HB13.out.keep hx5 (by simp; omega); have m15 : w14.cell? ⟨M, 15, none⟩ = some (.int .i64 0) := hB14.c 15; have n15 : w14.frozen? ⟨M, 15, none⟩ = false := hB14.f 15; have m16 : w14.cell? ⟨M, 16, none⟩ = some (.string ByteArray.empty) := hB14.c 16; have n16 : w14.frozen? ⟨M, 16, none⟩ = false := hB14.f 16; have s1 : Ext [M] w14 ((w14.setCell ⟨M, 15, none⟩ (.int .i64 p)).setCell ⟨M, 16, none⟩ (str d)) := ((Ext.refl [M] w14).setCell (.inl (by simp)) _).setCell (.inl (by simp)) _; have HX15 := Hid.of ((HX13.out.trans hx5 (fun z hz => .inr (by rw [← HB.out]; simp at hz; omega))).trans s1 (fun z hz => .inr (by simp at hz; omega))); have hB15 : Blk ((w14.setCell ⟨M, 15, none⟩ (.int .i64 p)).setCell ⟨M, 16, none⟩ (str d)) M 36 mm.cells := (by rw [← HMM.out]; exact (hB14.set 15 (.int .i64 p)).set 16 (str d)); have HRow := Hid.of hB15.range; have HAt := Hid.of (hAt.out _ ((HE13.out.keep hx5 hnb.out).keep s1 hnm.out) ((HO13.out.keep hx5 hnb2.out).keep s1 hnm2.out)); have cR := right_any mm Es Ss _ HAt.out HEs.out; have HZ15 := Hid.of (HBZ.out.keep HX15.out (by simp)); have cD := rdone_any b t13 _ ((hR5.keep s1 (by simp; omega))); clear hB14 hB15 s1 hR5 hx5 ct)
                  go_wp2_with (first
                    | (rw [HD.out] at cD; go_at_call 38; (with_reducible refine cD.mono ?_); rintro e w16 ⟨rfl, rfl⟩; clear cD)
                    | (refine wpList_load_row_g (by first | rfl | (simp [Region.wanted, yielded]; done)) 36 _ rfl M 0 rfl mm.cells _ HRow.out Try.underlying36 rfl (by rw [mcells_len]; kernel_rfl) ?_)
                    | (rw [hdr.out] at cR; go_at_call 22; (with_reducible refine cR.mono ?_); rintro e w17 ⟨rfl, hx17⟩; have HX17 := Hid.of (HX15.out.then0 hx17); have HZ17 := Hid.of (HZ15.out.keep hx17 (by simp)); have HRow17 := Hid.of (Ext.range0 HRow.out hx17); have HAt17 := Hid.of (HAt.out.keep0 hx17); clear hx17 cR)
                    | (refine wpList_store_mid rfl 36 _ _ rfl Z 0 Ms.zero.cells.toArray rfl rfl HZ17.out.there (by kernel_rfl) (mall _) ?_))
                  refine bodyPost_ret (results_row rfl _ _ Z Ms.zero.cells _ rfl (World.rangeAt_setCells_same _ _ _ _ HZ17.out.there) Try.underlying36 rfl (by kernel_rfl)) rfl ?_
                  refine ⟨(HXW.out.then0 HX17.out).setCells (.inr hZw) _ _, .inr ⟨fun h => HR.out ((okV_mv mm Es Ss).2 ⟨?_, ?_⟩), rfl⟩⟩
                  · have h2 := ((msgC.all s).1 h.1).2
                    rw [HJ.out] at h2
                    rw [HMV.out]
                    exact h2
                  · have h2 := h.2
                    rw [HJ.out] at h2
                    rw [HMK.out]
                    exact h2
              · have HD : Hid (doneR t13 = 2) := by
                  show doneR t13 = 2
                  unfold doneR at hd ⊢
                  split at hd
                  · exact absurd rfl hd
                  · rw [if_neg (by assumption)]
                have HN0 := Hid.of hd
                clear hd
                go_wp2_with (go_at_call 35; (with_reducible refine cn1.mono ?_); rintro e w13 ⟨rfl, hR5, hx5⟩; have HX13 := Hid.of (hX3.out.trans hx5 (fun z hz => .inr (by rw [← HB.out]; simp at hz; omega))); have HB13 := Hid.of (hB.out.keep hx5 (by simp; omega)); have HO13 := Hid.of (hO.out.keep hx5 hnb2.out); have HE13 := Hid.of (hE.out.keep hx5 hnb.out); have ct := rtext_any b 400 t12 w13 hR5 (by omega); rw [HD1.out] at ct; clear hR5 hx5 cn1)
                (go_at_call 36; (with_reducible refine ct.mono ?_); rintro e w14 ⟨rfl, hR5, hx5⟩; have hB14 := HB13.out.keep hx5 (by simp; omega); have m15 : w14.cell? ⟨M, 15, none⟩ = some (.int .i64 0) := hB14.c 15; have n15 : w14.frozen? ⟨M, 15, none⟩ = false := hB14.f 15; have m16 : w14.cell? ⟨M, 16, none⟩ = some (.string ByteArray.empty) := hB14.c 16; have n16 : w14.frozen? ⟨M, 16, none⟩ = false := hB14.f 16; have s1 : Ext [M] w14 ((w14.setCell ⟨M, 15, none⟩ (.int .i64 p)).setCell ⟨M, 16, none⟩ (str d)) := ((Ext.refl [M] w14).setCell (.inl (by simp)) _).setCell (.inl (by simp)) _; have HX15 := Hid.of ((HX13.out.trans hx5 (fun z hz => .inr (by rw [← HB.out]; simp at hz; omega))).trans s1 (fun z hz => .inr (by simp at hz; omega))); have hB15 : Blk ((w14.setCell ⟨M, 15, none⟩ (.int .i64 p)).setCell ⟨M, 16, none⟩ (str d)) M 36 mm.cells := (by rw [← HMM.out]; exact (hB14.set 15 (.int .i64 p)).set 16 (str d)); have HRow := Hid.of hB15.range; have HAt := Hid.of (hAt.out _ ((HE13.out.keep hx5 hnb.out).keep s1 hnm.out) ((HO13.out.keep hx5 hnb2.out).keep s1 hnm2.out)); have cR := right_any mm Es Ss _ HAt.out HEs.out; have HZ15 := Hid.of (HBZ.out.keep HX15.out (by simp)); have cD := rdone_any b t13 _ ((hR5.keep s1 (by simp; omega))); clear hB14 hB15 s1 hR5 hx5 ct)
                go_wp2_with (first
                  | (rw [HD.out] at cD; go_at_call 38; (with_reducible refine cD.mono ?_); rintro e w16 ⟨rfl, rfl⟩; clear cD)
                  | (refine wpList_store_mid rfl 36 _ _ rfl Z 0 Ms.zero.cells.toArray rfl rfl HZ15.out.there (by kernel_rfl) (mall _) ?_))
                refine bodyPost_ret (results_row rfl _ _ Z Ms.zero.cells _ rfl (World.rangeAt_setCells_same _ _ _ _ HZ15.out.there) Try.underlying36 rfl (by kernel_rfl)) rfl ?_
                exact ⟨(HXW.out.then0 HX15.out).setCells (.inr hZw) _ _, .inr ⟨fun h => HN0.out (by have := h.1; rw [HJ.out] at this; exact this), rfl⟩⟩
end Go.Proofs.Ytaekkkcgoegllaa
