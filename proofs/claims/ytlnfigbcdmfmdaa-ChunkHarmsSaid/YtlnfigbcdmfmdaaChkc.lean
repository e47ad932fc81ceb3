/- Package chunk: Cut. -/
import Derived.Test.YtlnfigbcdmfmdaaChkb
namespace Go.Proofs.Ytlnfigbcdmfmdaa
open Go.RowKit Go.Shelf
set_option linter.unusedVariables false
set_option linter.unusedSimpArgs false
attribute [local go_sem] Oper.semAt_some

/-- append inside a fence. -/
theorem wplIn_append {F : Fence} {m' : Nat} {P : Program} {w : World} {ops : Array Oper} {rest : List Oper} {a : Act} {Q : Exit → Act → World → Prop} {d : Option Tmp} {s x : Operand} {t ty : TypeId} {pos : String} {after : Array Edge}
    (e : TypeId) (z : Value) (size bytes : Nat) (hel : Elem P t e z size bytes)
    (v : Value) (n : Nat) (xs : List Value) (hs : a.eval s = v) (hown : Own w e size v n xs)
    (vx : Value) (m : Nat) (news : List Value) (hx : a.eval x = vx) (hrd : Rd w size vx m news) (h1 : ∀ u ∈ news, u.oneCell' = true)
    (hbytes : (n + m) * bytes ≤ 140737488355328) (h63 : n + m ≤ maxLen)
    (h : ∀ v' w', Own w' e size v' (n + m) (xs ++ news) → Ext (vblocks v) w w' → (vblocks v' = vblocks v ∨ vblocks v' = [w.heap.size]) → (m = 0 → v' = v ∧ w' = w) → wpListIn F m' P ops Q rest (a.put d v') w') :
    wpListIn F m' P ops Q (⟨d, .call { callee := .builtin .append, args := #[s, x], argTypes := #[t, t] }, ty, pos, after, none⟩ :: rest) a w := by
  refine wpListIn_plain rfl fun K hK => ?_
  obtain ⟨ht, hzs, i, hi, hz, hsize, hby⟩ := hel
  obtain ⟨v', w', hr, h2, h3, h4, h5⟩ := run_append_Own (P := P) w t ty e i z size bytes ht hi hz hsize hby hzs v n xs hown vx m news hrd h1 h63 hbytes
  unfold Oper.wpIn
  refine ⟨?_, ?_⟩
  · simp [Oper.about, resolve, Target.leads, Sem.run_pure]
  · rw [Oper.semAt_plain F _ _ (by intro c hc'; cases hc')]
    simp [execOp, resolve, invoke, builtin, hs, hx, hr, Result.andThen]
    exact hK _ _ (h v' w' h2 h3 h4 h5)
theorem Own.cells {w : World} {e : TypeId} {size : Nat} {v : Value} {n : Nat} {xs : List Value} (h : Own w e size v n xs) : ∀ g ∈ vblocks v, ∃ o, w.heap[g]? = some o ∧ o.isCells = true := by
  rcases h.2 with ⟨rfl, _⟩ | ⟨g, off, cap, cur, fz, rfl, hg, _⟩
  · simp [vblocks]
  · intro k hk
    simp [vblocks] at hk
    subst hk
    exact ⟨_, hg, rfl⟩
theorem Own.turn {A B : World} {e : TypeId} {size : Nat} {v : Value} {n : Nat} {xs : List Value} {row : Option Nat} (h : Own A e size v n xs) (hg : A.grownBy B row) (hr : ∀ r, row = some r → ∃ o : Obj, A.heap[r]? = some o ∧ o.isCells = false) : Own B e size v n xs := by
  refine h.keep (Ext.ofGrown hg) (fun k hk hm => ?_)
  obtain ⟨o, ho, hc⟩ := h.cells k hk
  have hrow : row = some k := by
    cases row with
    | none => simp at hm
    | some r => simp at hm; rw [hm]
  obtain ⟨o', ho', hc'⟩ := hr k hrow
  rw [ho] at ho'
  cases ho'
  rw [hc] at hc'
  cases hc'
theorem Own.others {w w' : World} {e : TypeId} {size : Nat} {v : Value} {n : Nat} {xs : List Value} (h : Own w e size v n xs) (hx : Ext (vblocks v) w w') : KeepsOthers w w' :=
  ⟨hx.size, fun k o hk hc => hx.heap (fun hm => by
    obtain ⟨o', ho', hc'⟩ := h.cells k hm
    rw [hk] at ho'
    cases ho'
    rw [hc] at hc'
    cases hc') hk⟩

def pc (d : List UInt8) (j : Nat) : List UInt8 := (d.drop (400 * j)).take 400
theorem cutL_pc (d : List UInt8) : cutL d = (List.range ((d.length + 399) / 400)).map (pc d) := rfl
theorem piece_str {w : World} {g cap : Nat} {d : List UInt8} (h : Rd w 1 (.slice (some ⟨g, 0, none⟩) d.length cap) d.length (bcells d)) (j : Nat) :
    (convert 60 9 (pieceV g d.length j)).run Try.prog w = .ok (.string ⟨(pc d j).toArray⟩) w := by
  refine run_string_Rd _ _ 5 Try.underlying60 Try.underlying5 Try.underlying9 _ (min 400 (d.length - 400 * j)) _ ?_
  obtain ⟨h1, a, cap', e, h2, h3, h4, h5⟩ := h
  simp only [Value.slice.injEq] at e
  obtain ⟨rfl, _, rfl⟩ := e
  have hl : (pc d j).length = min 400 (d.length - 400 * j) := by unfold pc; rw [List.length_take, List.length_drop]
  refine ⟨by rw [bcells_length, hl, Nat.mul_one], _, _, rfl, Nat.le_refl _, by unfold maxLen; omega, (fun h => by cases h), fun g' hg i u hu => ?_⟩
  cases hg
  rw [Addr.add_lit]
  have hi : i < (pc d j).length := by have := (List.getElem?_eq_some_iff.1 hu).1; rwa [bcells_length] at this
  have := h5 ⟨g, 0, none⟩ rfl (400 * j + i) u (by
    rw [← hu]
    unfold bcells pc
    rw [List.getElem?_map, List.getElem?_map, List.getElem?_take, if_pos (by rw [hl] at hi; omega), List.getElem?_drop])
  rwa [Addr.add_lit, Nat.zero_add] at this

theorem chunk_any (v : Value) (w : World) (a : Option Addr) (len cap : Nat) (hv : v = .slice a len cap) :
    Calls Try.prog 42 #[v, .int .i64 400] w fun e w' => e = .returned (.func (.func 59) #[] #[.pointer (some ⟨w.heap.size, 0, none⟩), .pointer (some ⟨w.heap.size + 1, 0, none⟩)]) ∧ w' = (w.alloc (.cells #[v] 60)).alloc (.cells #[.int .i64 400] 3) := by
  subst hv
  go_enter Try.func42, Try.ntmps42
  go_wp2
  go_ret
  exact ⟨rfl, rfl⟩
/-- What slices.Chunk hands back. -/
theorem chunk_stops (n : Nat) (hn : 1 ≤ n) (Bs Bn p n₀ g len cap : Nat) (w : World) (hlen : len ≤ cap) (hl9 : len ≤ 1000000000000) (hcap : cap ≤ 9223372036854775807) (h1 : Bs < n₀) (h1' : Bs ≠ p) (h2 : Bn < n₀) (h2' : Bn ≠ p) (hn₀ : n₀ ≤ w.heap.size)
    (hBs : Blk w Bs 60 [.slice (some ⟨g, 0, none⟩) len cap]) (hBn : Blk w Bn 3 [.int .i64 400]) :
    SeqStopsK Fence.wide n Try.prog 59 #[.pointer (some ⟨Bs, 0, none⟩), .pointer (some ⟨Bn, 0, none⟩)] (fun x : Nat => #[pieceV g len x]) (BelowX p n₀) (fun ys => ys = List.range ((len + 399) / 400))
      (fun pre => ∃ k, k ≤ (len + 399) / 400 ∧ pre = List.range k) ((len + 399) / 400) w := fun l J Jx W hW hJ hJx hY h0 =>
  chunk1_in n hn l Bs Bn p n₀ g len cap hlen hl9 hcap h1 h1' h2 h2' J Jx
    (fun pre A m hA => hJ pre A (A.drewN m) none hA ⟨((Ext.refl [] A).drewN m).os, ((Ext.refl [] A).drewN m).tape, ((Ext.refl [] A).drewN m).output, ((Ext.refl [] A).drewN m).size, fun k hk _ => ((Ext.refl [] A).drewN m).block k hk (by simp)⟩ (by simp))
    hY W (Nat.le_trans hn₀ hW.size) ((hW.block Bs (by omega)).trans hBs) ((hW.block Bn (by omega)).trans hBn) h0

/-- What Cut's rounds keep. -/
def CutI (P : Nat) (d : List UInt8) (B0 : Nat) (W0 : World) (pre : List Nat) (W : World) : Prop :=
  ∃ v, Blk W P 31 [v] ∧ Own W 9 1 v pre.length (pre.map fun j => str (pc d j)) ∧ (∀ z ∈ vblocks v, B0 ≤ z ∧ z ≠ P) ∧ BelowX P B0 W0 W
theorem CutI.turn {P : Nat} {d : List UInt8} {B0 : Nat} {W0 : World} (hB : B0 ≤ W0.heap.size) (s : List Nat) (X Y : World) (row : Option Nat) (hs : CutI P d B0 W0 s X) (hg : X.grownBy Y row) (hr : ∀ r, row = some r → W0.heap.size ≤ r ∧ ∃ o : Obj, X.heap[r]? = some o ∧ o.isCells = false) : CutI P d B0 W0 s Y := by
  obtain ⟨v, h1, h2, h3, h4⟩ := hs
  refine ⟨v, ?_, h2.turn hg (fun r e => (hr r e).2), h3, h4.trans (BelowX.of (Ext.ofGrown hg) (by have := h4.size; omega) (fun z hz => ?_))⟩
  · refine Blk.keep h1 (Ext.ofGrown hg) (fun hm => ?_)
    have hrow : row = some P := by
      cases row with
      | none => simp at hm
      | some r => simp at hm; rw [hm]
    obtain ⟨o, ho, hc⟩ := (hr P hrow).2
    have h1' : X.heap[P]? = _ := h1
    rw [h1'] at ho
    cases ho
    cases hc
  · right
    have hrow : row = some z := by
      cases row with
      | none => simp at hz
      | some r => simp at hz; rw [hz]
    have := (hr z hrow).1
    omega
/-- A list of texts handed back, in a row of the call's own. -/
def Strs (w : World) (l : List (List UInt8)) (e : Ending) (w' : World) : Prop := ∃ sv, e = .returned sv ∧ Own w' 9 1 sv l.length (l.map str) ∧ Ext [] w w' ∧ ∀ z ∈ vblocks sv, w.heap.size ≤ z
theorem Strs.mk {w w' : World} {l : List (List UInt8)} {sv : Value} {n : Nat} {xs : List Value} (h : Own w' 9 1 sv n xs) (hn : n = l.length) (hx : xs = l.map str) (h2 : Ext [] w w') (h3 : ∀ z ∈ vblocks sv, w.heap.size ≤ z) : Strs w l (.returned sv) w' := by
  subst hn; subst hx; exact ⟨sv, rfl, h, h2, h3⟩
set_option maxRecDepth 100000 in
set_option maxHeartbeats 2000000 in
theorem cut_any (d : List UInt8) (w : World) (hd : d.length ≤ 1000000000) : Calls Try.prog 15 #[str d] w (Strs w (cutL d)) := by
  refine callsIn_wide.1 (callsIn_of_wp_marks (n := 8) Try.func15 rfl trivial ?_ rfl)
  simp only [Try.ntmps15, List.size_toArray, List.length_cons, List.length_nil, Nat.reduceAdd, Nat.reduceSub, Array.replicate_succ, Array.replicate_zero, List.push_toArray, List.append_toArray, List.nil_append, List.cons_append]
  refine wpIn_wide.2 ?_
  obtain ⟨P, hP⟩ : ∃ P, w.heap.size = P := ⟨_, rfl⟩
  obtain ⟨W, hW⟩ : ∃ W, W = w.alloc (.cells #[.slice none 0 0] 31) := ⟨_, rfl⟩
  have hxW : Ext [] w W := by rw [hW]; exact (Ext.refl _ _).alloc _
  have hbP : Blk W P 31 [.slice none 0 0] := by rw [← hP, hW]; exact Blk.new w 31 #[.slice none 0 0]
  have hWs : W.heap.size = P + 1 := by rw [← hP, hW]; simp
  go_wp2_with (first | ((with_reducible refine wpl_bytes 5 ?_ ?_ ?_ ⟨d.toArray⟩ ?_ ?_ ?_)))
  all_goals try rfl
  · show d.length ≤ maxLen
    unfold maxLen; omega
  intro cap w1 ho hx1 hlt1
  rw [← hW] at hx1
  try simp only [hP] at ho hlt1 ⊢
  have hb1 := Blk.keep hbP hx1 (by simp)
  have hcap := ho.rd.len
  unfold maxLen at hcap
  have hxw1 : Ext [] w w1 := hxW.then0 hx1
  clear hW hbP hxW hx1
  go_wp2_with fail
  refine (chunk_any _ _ _ _ _ rfl).mono ?_
  rintro e w2 ⟨rfl, rfl⟩
  obtain ⟨B, hB⟩ : ∃ B, B = w1.heap.size := ⟨_, rfl⟩
  obtain ⟨W2, hW2⟩ : ∃ W2, W2 = (w1.alloc (.cells #[.slice (some ⟨P + 1, 0, none⟩) d.length cap] 60)).alloc (.cells #[.int .i64 400] 3) := ⟨_, rfl⟩
  have hx2 : Ext [] w1 W2 := by rw [hW2]; exact ((Ext.refl _ _).alloc _).alloc _
  have hs2 : W2.heap.size = B + 2 := by rw [hB, hW2]; simp
  have hbB : Blk W2 B 60 [.slice (some ⟨P + 1, 0, none⟩) d.length cap] := by rw [hB, hW2]; exact (Blk.new w1 60 #[.slice (some ⟨P + 1, 0, none⟩) d.length cap]).alloc _
  have hbN : Blk W2 (B + 1) 3 [.int .i64 400] := by
    have := Blk.new (w1.alloc (.cells #[.slice (some ⟨P + 1, 0, none⟩) d.length cap] 60)) 3 #[.int .i64 400]
    rw [hB, hW2]
    simpa using this
  have hb2 := Blk.keep hb1 hx2 (by simp)
  have hr2 := ho.rd.keep hx2 (by simp)
  have hxw2 : Ext [] w W2 := hxw1.then0 hx2
  rw [← hB, ← hW2]
  have hPB : P + 1 < B := by rw [hB]; exact hlt1
  clear hW2 hB hb1 ho hxw1 hx2 hlt1
  go_wp2_with fail
  obtain ⟨B0, hB0⟩ : ∃ B0, B0 = B + 2 := ⟨_, rfl⟩
  rw [← hB0] at hs2
  have hpc : ∀ j W, BelowX P B0 W2 W → (convert 60 9 (pieceV (P + 1) d.length j)).run Try.prog W = .ok (.string ⟨(pc d j).toArray⟩) W := fun j W hW => by
    refine piece_str (cap := cap) (Rd.keep hr2 (hW.ext hs2.symm) (by simp [vblocks])) j
  refine wpIn_wide.1 (wpIn_rangeFunc_ownH (F := Fence.wide) (n := 8) rfl (by omega) (gf := 59) (lb := #[.pointer (some ⟨B, 0, none⟩), .pointer (some ⟨B + 1, 0, none⟩)]) rfl trivial (enters_of Try.func59 (by kernel_rfl) rfl)
    (chunk_stops 7 (by omega) B (B + 1) P B0 (P + 1) d.length cap W2 hcap.2.1 (by omega) hcap.2.2.1 (by omega) (by omega) (by omega) (by omega) (by omega) hbB hbN) BelowX.trans (fun W l o o' h1 h2 h3 h4 => BelowX.put (w := W2) (by omega) W l o o' h1 h2 h3 h4) (Below.refl _ _) (fun _ => rfl)
    (CutI P d B0 W2) (fun _ _ _ => False)
    (fun s X Y row hs hg hr => CutI.turn (by omega) s X Y row hs hg hr)
    (fun c s X Y row hs hg hr => hs.elim)
    ⟨_, hb2, Own.nil _ _ _, by simp [vblocks], BelowX.refl _ _ _⟩
    (fun x a' W' => a' = { tmps := #[str d, undef, .slice none 0 0, .pointer (some ⟨P, 0, none⟩), pieceV (P + 1) d.length x, str d, .slice (some ⟨P + 1, 0, none⟩) d.length cap, .func (.func 59) #[] #[.pointer (some ⟨B, 0, none⟩), .pointer (some ⟨B + 1, 0, none⟩)], pieceV (P + 1) d.length x, undef, undef, undef, undef, undef, undef], defers := [] })
    (fun x a' s X Y row hs hg hr => hs)
    ?assign ?body ?done ?stop)
  case assign =>
    rintro l pre x W' K hI hK
    gi_wp2
    exact hK _ _ (KeepsFrom.refl _ _) (BelowX.refl _ _ _) hI rfl
  case body =>
    rintro l pre x a' W' hl ⟨r, hr⟩ ⟨v, hv1, hv2, hv3, hv4⟩ rfl hlt
    have hcv := hpc x W' hv4
    have c0 := Blk.c hv1 0
    have f0 := Blk.f hv1 0
    simp only [List.getElem?_cons_zero] at c0
    have hpl : pre.length ≤ 1000000000 := by omega
    generalize pieceV (P + 1) d.length x = pv at hcv ⊢
    gi_wp2_with (first | ((with_reducible refine wplIn_append 9 (.string ByteArray.empty) 1 16 el_strs _ _ _ ?_ (hv2.alloc _) (.slice (some ⟨W'.heap.size, 0, none⟩) 1 1) 1 [str (pc d x)] ?_ ?_ ?_ ?_ ?_ ?_)))
    all_goals try rfl
    · exact Rd.strs1 (pc d x) rfl
    · intro u hu
      simp at hu
      subst hu
      rfl
    · omega
    · unfold maxLen; omega
    · intro v' w3 ho' hx' hv' _
      have hP3 : P ∉ vblocks v := fun hm => (hv3 P hm).2 rfl
      have hxa : Ext [] W' (W'.alloc (.cells #[.string ⟨(pc d x).toArray⟩] 9)) := (Ext.refl _ _).alloc _
      have hx3 : Ext (vblocks v) W' w3 := ((Ext.refl (vblocks v) W').alloc _).trans hx' (fun z hz => .inl hz)
      obtain ⟨a', cap', rfl⟩ := Rd.isSlice ho'.rd
      have hk3 : KeepsOthers W' w3 := (KeepsOthers.alloc _ _).trans ((hv2.alloc _).others hx')
      have hb3 := Blk.keep hv1 hx3 hP3
      have hsz := hv4.size
      have hPlt := Blk.lt hv1
      have hv5 : ∀ z ∈ vblocks (.slice a' (pre.length + 1) cap'), B0 ≤ z ∧ z ≠ P := by
        intro z hz
        rcases hv' with h | h
        · exact hv3 z (h ▸ hz)
        · rw [h] at hz
          simp at hz
          subst hz
          omega
      have hX3 := hv4.trans (BelowX.of (p := P) (n := B0) hx3 (by omega) (fun z hz => .inr (hv3 z hz).1))
      have d0 := Blk.c hb3 0
      have g0 := Blk.f hb3 0
      simp only [List.getElem?_cons_zero] at d0
      clear hv1 hv2 hv4 hx' hv' hxa hcv c0 f0 hpc
      gi_wp2
      have hxs : Ext [P] w3 (w3.setCell ⟨P, 0, none⟩ (.slice a' (pre.length + 1) cap')) := (Ext.refl _ _).setCell (.inl (by simp)) _
      refine ⟨(hk3.trans (KeepsOthers.setCell _ _ _)).from _, BelowX.trans (BelowX.of (p := P) (n := B0) hx3 (by omega) (fun z hz => .inr (hv3 z hz).1)) (BelowX.of hxs (by have := hX3.size; omega) (by simp)), _, Blk.set hb3 0 _, ?_, hv5, hX3.trans (BelowX.of hxs (by have := hX3.size; omega) (by simp))⟩
      have := ho'.keep hxs (fun z hz hm => (hv5 z hz).2 (by simpa using hm))
      rw [List.length_append, List.map_append]
      exact this
  case done =>
    rintro D' ys W' hD rfl ⟨v, hv1, hv2, hv3, hv4⟩ hK
    have c0 := Blk.c hv1 0
    simp only [List.getElem?_cons_zero] at c0
    have hx3 : Ext [] w W' := (hxw2.trans (hv4.ext hs2.symm) (by simp; omega))
    have HO := Hid.of (And.intro hv2 hv3)
    have HX := Hid.of hx3
    have hle : B0 ≤ D' := by omega
    clear hpc hv2 hv3 hx3
    go_wp2
    refine ⟨by simp, .inl ⟨_, _, rfl, run_takeDeferred hK, ?_⟩⟩
    have hgr := grownBy_putObj' W' D' (.deferred none)
    refine ⟨v, by simp [results, Try.results15, go_sem], ?_⟩
    have ho := HO.out.1.turn hgr (fun r e => by cases e; exact ⟨_, hK, rfl⟩)
    exact Strs.mk ho (by rw [cutL_pc]; simp) (by rw [cutL_pc]; simp) (HX.out.trans (Ext.ofGrown hgr) (by simp; omega)) (fun z hz => by have := (HO.out.2 z hz).1; omega)
  case stop =>
    rintro D' c pre W' hD _ hf
    exact hf.elim
end Go.Proofs.Ytlnfigbcdmfmdaa
