/- Layer 6's statements: Do, no power failing. (Printed by wip/gen_do.py.) -/
import Derived.Test.YtmjgbkepngeckaaEntries
import Derived.Test.YtmjgbkepngeckaaSl
namespace Go.Proofs.Ytmjgbkepngeckaa
open Go.RowKit
set_option linter.unusedVariables false
set_option linter.unusedSimpArgs false
attribute [local go_sem] i64_and3 i64_and1

def AllOk (all : List Ent) : Prop := ∀ e ∈ all, 1 ≤ e.term ∧ e.term ≤ 65536 ∧ e.data.length ≤ 201
theorem eList_ok (first : Int) (len : Nat) (T : Int) (d : List UInt8) (hd : d.length ≤ 200) (n : Nat) : AllOk (eList first len T d n) := by
  intro e he
  obtain ⟨k, hk, rfl⟩ := List.mem_map.1 he
  have h0 : 0 ≤ T % 65536 := Int.emod_nonneg _ (by decide)
  have h1 : T % 65536 < 65536 := Int.emod_lt_of_pos _ (by decide)
  refine ⟨by show 1 ≤ 1 + T % 65536; omega, by show 1 + T % 65536 ≤ 65536; omega, ?_⟩
  show (d ++ [UInt8.ofNat k]).length ≤ 201
  rw [List.length_append, List.length_singleton]
  omega
theorem AllOk.bad {all : List Ent} (h : AllOk all) {e : Ent} (he : e ∈ all) : ¬ e.bad := by
  obtain ⟨h1, h2, h3⟩ := h e he
  unfold Ent.bad
  omega
theorem chkE_ofB (f : Nat → Ent) : ∀ (k m : Nat) (i : Int), (∀ j, m ≤ j → j < m + k → (f j).idx = i + ((j - m : Nat) : Int) ∧ ¬ (f j).bad) → chkE i ((List.range' m k).map f) = 0 := by
  intro k
  induction k with
  | zero => intro m i _; rfl
  | succ k ih =>
    intro m i h
    rw [List.range'_succ, List.map_cons]
    unfold chkE
    obtain ⟨h1, h2⟩ := h m (Nat.le_refl _) (by omega)
    rw [if_neg (fun g => g (by rw [h1]; simp)), if_neg h2]
    refine ih (m + 1) (i + 1) fun j h3 h4 => ?_
    obtain ⟨h5, h6⟩ := h j (by omega) (by omega)
    exact ⟨by rw [h5]; omega, h6⟩
theorem eList_app (first : Int) (all : List Ent) (T : Int) (d : List UInt8) (hd : d.length ≤ 200) (n : Nat) : appE8 first all (eList first all.length T d n) = if 8 - (all.length : Int) < (n : Int) then 4 else 0 := by
  unfold appE8
  rw [eList_len]
  split
  · rfl
  · have := chkE_ofB (eEnt first all.length T d) n 0 (first + all.length) (fun j _ h2 => ⟨rfl, (eList_ok first all.length T d hd n).bad (List.mem_map.2 ⟨j, List.mem_range.2 (by omega), rfl⟩)⟩)
    rw [eList, List.range_eq_range']
    exact this
theorem eList_i64 (first : Int) (len : Nat) (T : Int) (d : List UInt8) (hd : d.length ≤ 200) (n : Nat) (h1 : 0 ≤ first) (h2 : first ≤ 1000000000) (h3 : len ≤ 8) (h4 : n ≤ 4) : ∀ e ∈ eList first len T d n, e.i64 := by
  intro e he
  have ho := eList_ok first len T d hd n e he
  obtain ⟨k, hk, rfl⟩ := List.mem_map.1 he
  have hk2 := List.mem_range.1 hk
  exact ⟨⟨by show -9223372036854775808 ≤ first + len + k; omega, by show first + len + k ≤ 9223372036854775807; omega⟩, ⟨by omega, by omega⟩, by unfold maxLen; omega⟩
def CutMid (w0 wr w : World) (wq b q : Nat) (first : Int) (va vm : Value) (all : List Ent) (O : List Nat) : Prop := St w0 w wq b q first va vm all O ∧ Kept O wr w
def DropMidN (w0 wr w : World) (wq b q : Nat) (first : Int) (nn : Nat) (va vm : Value) (all : List Ent) (O : List Nat) : Prop :=
  Kept (wq :: O) wr w ∧ Blk w wq 35 [.pointer (some ⟨b, 0, none⟩), .pointer (some ⟨q, 0, none⟩), .int .i64 first, va, vm] ∧
    ∀ w'' va' vm', Ext [wq] w w'' → Blk w'' wq 35 [.pointer (some ⟨b, 0, none⟩), .pointer (some ⟨q, 0, none⟩), .int .i64 (first + nn), va', vm'] → St w0 w'' wq b q (first + nn) va' vm' (all.drop nn) O ∧ Kept O w w''
section
variable {w0 w : World} {wq b q : Nat} {first : Int} {vm : Value} {all : List Ent} {O : List Nat} {a : Option Addr} {cap : Nat}
theorem RSt.add {w' : World} (h : RSt w0 w wq b q first vm all O a cap) (hx : Ext [] w w') (z : Nat) (h1 : w.heap.size ≤ z) (h2 : z < w'.heap.size) : RSt w0 w' wq b q first vm all (z :: O) a cap :=
  ⟨(h.1.add hx z h1 h2).sub (fun y hy => by simp only [List.mem_append, List.mem_cons] at hy ⊢; rcases hy with h | h | h; exact .inr (.inl h); exact .inl h; exact .inr (.inr h)), h.2.keep hx (by simp)⟩
/-- The list's variable written: what append gave. -/
theorem St.newAll {w3 : World} {va : Value} {len m n2 : Nat} (h : St w0 w3 wq b q first va vm all (vblocks (.slice a len cap) ++ O)) {a' : Option Addr} {cap' : Nat} {w4 : World} (hx : Ext [] w3 w4) (hR : Rd w4 3 (.slice a' n2 cap') n2 (all.flatMap Ent.cells)) (hn : all.length = n2)
    (hv : (m = 0 ∧ Value.slice a' n2 cap' = .slice a len len ∧ w4 = w3) ∨ (vblocks (.slice a' n2 cap') = [w3.heap.size] ∧ w3.heap.size < w4.heap.size)) :
    RSt w0 (w4.setCell ⟨wq, 3, none⟩ (.slice a' n2 cap')) wq b q first vm all O a' cap' ∧ Kept (vblocks (.slice a len cap) ++ O) w4 (w4.setCell ⟨wq, 3, none⟩ (.slice a' n2 cap')) := by
  subst hn
  have hq := h.new0
  have h4 := (h.keep hx).setCells (.slice a' all.length cap')
  have hvb : ∀ c1 c2 n1 n2, vblocks (.slice a n1 c1) = vblocks (.slice a n2 c2) := fun _ _ _ _ => by cases a <;> rfl
  rcases hv with ⟨_, he, rfl⟩ | ⟨he, hl⟩
  · simp only [Value.slice.injEq] at he
    obtain ⟨rfl, rfl, rfl⟩ := he
    rw [hvb cap all.length all.length all.length] at h4 hq ⊢
    refine ⟨⟨h4.1, hR.keep ((Ext.refl [wq] w4).setCell (.inl (by simp)) _) (fun k hk hm => ?_)⟩, h4.2⟩
    simp at hm
    subst hm
    exact hq.2.2 (by simp [hk])
  · have h2 := (h.sub (O' := O) (fun z hz => by simp [hz])).addV hx (.slice a' all.length cap') (fun z hz => by rw [he] at hz; simp at hz; omega)
    have h3 := h2.setCells (.slice a' all.length cap')
    refine ⟨⟨h3.1, hR.keep ((Ext.refl [wq] w4).setCell (.inl (by simp)) _) (fun k hk hm => ?_)⟩, h4.2⟩
    rw [he] at hk
    simp at hm hk
    omega
theorem RSt.setMay (h : RSt w0 w wq b q first vm all O a cap) (vm' : Value) : RSt w0 (w.setCell ⟨wq, 4, none⟩ vm') wq b q first vm' all O a cap ∧ Kept (vblocks (.slice a all.length cap) ++ O) w (w.setCell ⟨wq, 4, none⟩ vm') := by
  have h2 := h.1.setMay vm'
  exact ⟨⟨h2.1, h2.2.rd h.2 (fun z hz => by simp [hz])⟩, h2.2⟩
end
theorem vb_any (a : Option Addr) (n1 n2 c1 c2 : Nat) : vblocks (.slice a n1 c1) = vblocks (.slice a n2 c2) := by cases a <;> rfl
theorem cells_take (all : List Ent) (k : Nat) (hk : k ≤ all.length) : (all.flatMap Ent.cells).take (k * 3) = (all.take k).flatMap Ent.cells := by
  have h3 : all.flatMap Ent.cells = (all.take k).flatMap Ent.cells ++ (all.drop k).flatMap Ent.cells := by rw [← List.flatMap_append, List.take_append_drop]
  rw [h3, List.take_left' (by rw [flatMap_len _ 3 ecells_len, List.length_take, Nat.min_eq_left hk])]
theorem cells_drop (all : List Ent) (k : Nat) (hk : k ≤ all.length) : (all.flatMap Ent.cells).drop (k * 3) = (all.drop k).flatMap Ent.cells := by
  have h3 : all.flatMap Ent.cells = (all.take k).flatMap Ent.cells ++ (all.drop k).flatMap Ent.cells := by rw [← List.flatMap_append, List.take_append_drop]
  rw [h3, List.drop_left' (by rw [flatMap_len _ 3 ecells_len, List.length_take, Nat.min_eq_left hk])]
section
variable {w0 w : World} {wq b q : Nat} {first : Int} {vm : Value} {all : List Ent} {O : List Nat} {a : Option Addr} {len kk cap : Nat}
theorem RSt.ofFront (hS : St w0 w wq b q first (.slice a kk cap) vm (all.take kk) (vblocks (.slice a len cap) ++ O)) (hR : Rd w 3 (.slice a all.length cap) all.length (all.flatMap Ent.cells)) (hk : kk ≤ all.length) : RSt w0 w wq b q first vm (all.take kk) O a cap := by
  have hl : (all.take kk).length = kk := by rw [List.length_take, Nat.min_eq_left hk]
  unfold RSt
  rw [hl, vb_any a kk len cap cap, ← cells_take all kk hk]
  exact ⟨hS, hR.front kk hk⟩
theorem RSt.ofBehind (hS : St w0 w wq b q first (behindV a len kk cap) vm (all.drop kk) (vblocks (.slice a len cap) ++ O)) (hR : Rd w 3 (.slice a len cap) len (all.flatMap Ent.cells)) (hl : len = all.length) (hk : kk ≤ len) : RSt w0 w wq b q first vm (all.drop kk) O (if cap = kk then a else a.map (·.add (kk * 3))) (cap - kk) := by
  subst hl
  have hl2 : (all.drop kk).length = all.length - kk := List.length_drop
  have hv := behindV_blocks a all.length kk cap
  have hb := hR.behind kk hk
  rw [cells_drop all kk hk] at hb
  unfold RSt
  rw [hl2]
  unfold behindV at hS hv hb
  rw [hv]
  exact ⟨hS, hb⟩
end
theorem St.down_c {w0 w : World} {wq b q : Nat} {first : Int} {va vm : Value} {all : List Ent} {O : List Nat} (h : St w0 w wq b q first va vm all O) : Calls Try.prog 36 #[.pointer (some ⟨b, 0, none⟩)] w fun e w' => e = .returned (.bool false) ∧ Ext [] w w' := by
  obtain ⟨L, V, h1, _⟩ := h
  obtain ⟨mb, tv, D, hAt⟩ := h1.log
  have := down_n b D w0 w hAt.dev.n
  rw [hAt.fine.live.down] at this
  exact this.mono (fun e w' ⟨he, hw⟩ => ⟨he, by rw [← hw]; exact Ext.refl _ _⟩)
def DoCut (w0 wx : World) (wq E : Nat) (first : Int) (O : List Nat) (ac : List Value) : Prop :=
  ∃ b' q' first' vm' all' a' cap', RSt w0 wx wq b' q' first' vm' all' (E :: O) a' cap' ∧ Blk wx E 29 ac ∧ AllOk all' ∧ 1 ≤ first' ∧ first' ≤ first + 3
def do18Φ (wq q : Nat) (first : Int) (a : Option Addr) (len cap nn : Nat) (n : Nat) (y : Value) (w : World) : Prop :=
  match n with
  | 0 => y = .pointer (some ⟨wq, 0, none⟩)
  | 1 => y = .pointer (some ⟨wq, 0, none⟩)
  | 2 => y = .pointer (some ⟨wq, 1, none⟩)
  | 3 => y = .pointer (some ⟨q, 0, none⟩)
  | 4 => y = .pointer (some ⟨wq, 0, none⟩)
  | 5 => y = .pointer (some ⟨wq, 0, none⟩)
  | 6 => y = .pointer (some ⟨wq, 2, none⟩)
  | 7 => y = .int .i64 first
  | 8 => y = .pointer (some ⟨wq, 0, none⟩)
  | 9 => y = .pointer (some ⟨wq, 0, none⟩)
  | 10 => y = .pointer (some ⟨wq, 3, none⟩)
  | 11 => y = .slice a len cap
  | 12 => y = .int .i64 (len)
  | 13 => y = .int .i64 (first + (len : Int))
  | 14 => y = .int .i64 (nn)
  | 15 => y = .int .i64 (first + (len : Int) - (nn : Int))
  | _ => True
def do18ΦT (wq q : Nat) (first : Int) (a : Option Addr) (len cap nn : Nat) (n : Nat) (y : Value) : Prop :=
  match n with
  | 0 => y = .pointer (some ⟨wq, 0, none⟩)
  | 1 => y = .pointer (some ⟨wq, 0, none⟩)
  | 2 => y = .pointer (some ⟨wq, 1, none⟩)
  | 3 => y = .pointer (some ⟨q, 0, none⟩)
  | 4 => y = .pointer (some ⟨wq, 0, none⟩)
  | 5 => y = .pointer (some ⟨wq, 0, none⟩)
  | 6 => y = .pointer (some ⟨wq, 2, none⟩)
  | 7 => y = .int .i64 first
  | 8 => y = .pointer (some ⟨wq, 0, none⟩)
  | 9 => y = .pointer (some ⟨wq, 0, none⟩)
  | 10 => y = .pointer (some ⟨wq, 3, none⟩)
  | 11 => y = .slice a len cap
  | 12 => y = .int .i64 (len)
  | 13 => y = .int .i64 (first + (len : Int))
  | 14 => y = .int .i64 (nn)
  | 15 => y = .int .i64 (first + (len : Int) - (nn : Int))
  | _ => True
def do28Φ (wq q : Nat) (first : Int) (nn : Nat) (n : Nat) (y : Value) (w : World) : Prop :=
  match n with
  | 0 => y = .pointer (some ⟨wq, 0, none⟩)
  | 1 => y = .pointer (some ⟨wq, 0, none⟩)
  | 2 => y = .pointer (some ⟨wq, 1, none⟩)
  | 3 => y = .pointer (some ⟨q, 0, none⟩)
  | 4 => y = .pointer (some ⟨wq, 0, none⟩)
  | 5 => y = .pointer (some ⟨wq, 0, none⟩)
  | 6 => y = .pointer (some ⟨wq, 2, none⟩)
  | 7 => y = .int .i64 first
  | 8 => y = .int .i64 (nn)
  | 9 => y = .int .i64 (first + (nn : Int))
  | _ => True
def do28ΦT (wq q : Nat) (first : Int) (nn : Nat) (n : Nat) (y : Value) : Prop :=
  match n with
  | 0 => y = .pointer (some ⟨wq, 0, none⟩)
  | 1 => y = .pointer (some ⟨wq, 0, none⟩)
  | 2 => y = .pointer (some ⟨wq, 1, none⟩)
  | 3 => y = .pointer (some ⟨q, 0, none⟩)
  | 4 => y = .pointer (some ⟨wq, 0, none⟩)
  | 5 => y = .pointer (some ⟨wq, 0, none⟩)
  | 6 => y = .pointer (some ⟨wq, 2, none⟩)
  | 7 => y = .int .i64 first
  | 8 => y = .int .i64 (nn)
  | 9 => y = .int .i64 (first + (nn : Int))
  | _ => True
set_option maxRecDepth 100000 in
set_option maxHeartbeats 12800000 in
theorem do_c {w0 w : World} {wq b q : Nat} {first : Int} {vm : Value} {all : List Ent} {O : List Nat} {a : Option Addr} {cap : Nat} (h : RSt w0 w wq b q first vm all O a cap) (hA : AllOk all) (hf : first ≤ 1000) (K N T B : Int) (d : List UInt8) (hd : d.length ≤ 200) (fa : Option Addr) (fl fc : Nat) (fs : List Int) (hF : Rd w0 1 (.slice fa fl fc) fl (fs.map (Value.int .i64))) :
    Calls Try.prog 14 #[.pointer (some ⟨wq, 0, none⟩), .agg (actC K N T B 0 d (.slice fa fl fc)).toArray] w fun e w' => e = .returned (.bool true) ∧ ∃ b' q' first' vm' all' a' cap', RSt w0 w' wq b' q' first' vm' all' O a' cap' ∧ AllOk all' ∧ 1 ≤ first' ∧ first' ≤ first + 3 := by
  obtain ⟨f1, f2⟩ := h.1.first_rng
  have h8 := h.1.len
  have hB0 : 0 ≤ B % 4 := Int.emod_nonneg _ (by decide)
  have hB1 : B % 4 < 4 := Int.emod_lt_of_pos _ (by decide)
  obtain ⟨k7, hq7, hk0, hk6⟩ : ∃ k, (IntKind.u64.wrap K).tmod 7 = k ∧ 0 ≤ k ∧ k ≤ 6 := by
    refine ⟨_, rfl, ?_, ?_⟩
    · rw [IntKind.wrap_u64, Int.tmod_eq_emod_of_nonneg (Int.emod_nonneg _ (by omega))]; omega
    · rw [IntKind.wrap_u64, Int.tmod_eq_emod_of_nonneg (Int.emod_nonneg _ (by omega))]; omega
  have hw7 : IntKind.i64.wrap k7 = k7 := IntWalk.i64_in _ ⟨by omega, by omega⟩
  obtain ⟨E, hE⟩ : ∃ x, x = w.heap.size := ⟨_, rfl⟩
  obtain ⟨W, hW⟩ : ∃ W, W = w.alloc (.cells (actC K N T B 0 d (.slice fa fl fc)).toArray 29) := ⟨_, rfl⟩
  have hEB : Blk W E 29 (actC K N T B 0 d (.slice fa fl fc)) := by rw [hE, hW]; exact Blk.new _ _ _
  have HR := Hid.of (h.add (w' := W) (by rw [hW]; exact (Ext.refl _ _).alloc _) E (by omega) hEB.lt)
  have HEB := Hid.of hEB
  have HA := Hid.of hA
  have HF := Hid.of hF
  clear h hEB hA hF
  unfold actC at hW ⊢
  go_enter Try.func14, Try.ntmps14
  go_upto_region 1 with fail
  rw [← hE]
  simp only [← hW]
  clear hW hE
  have cF : W.cell? ⟨E, 4, none⟩ = some (.int .i64 0) := Blk.c HEB.out 4
  have cK : W.cell? ⟨E, 0, none⟩ = some (.int .i64 K) := Blk.c HEB.out 0
  have hbW := HR.out.1.blk
  have c3 : W.cell? ⟨wq, 3, none⟩ = some (.slice a all.length cap) := Blk.c hbW 3
  obtain ⟨len, hlen⟩ : ∃ x, x = all.length := ⟨_, rfl⟩
  rw [← hlen] at c3
  have HLen := Hid.of hlen
  have hl8 : len ≤ 8 := by omega
  clear hlen h8
  go_upto_block 0 with fail
  go_cut [] (fun wx => Hid (DoCut w0 wx wq E first O [.int .i64 K, .int .i64 N, .int .i64 T, .int .i64 B, .int .i64 0, .string ⟨d.toArray⟩, .slice fa fl fc]))
  case first => as_aux_lemma =>
    clear cF cK
    by_cases h4 : k7 < 4
    · obtain ⟨M, hM⟩ : ∃ M : Nat, N % 4 = (M : Int) := ⟨(N % 4).toNat, by have := Int.emod_nonneg N (show (4 : Int) ≠ 0 by decide); omega⟩
      have hMl : M < 4 := by have := Int.emod_lt_of_pos N (show (0 : Int) < 4 by decide); omega
      have hlen := HLen.out
      have cE := entries_c HR.out K N T B 0 d hd (.slice fa fl fc) M hM
      have e0 : W.cell? ⟨E, 0, none⟩ = some (.int .i64 K) := Blk.c HEB.out 0
      have e1 : W.cell? ⟨E, 1, none⟩ = some (.int .i64 N) := Blk.c HEB.out 1
      have e2 : W.cell? ⟨E, 2, none⟩ = some (.int .i64 T) := Blk.c HEB.out 2
      have e3 : W.cell? ⟨E, 3, none⟩ = some (.int .i64 B) := Blk.c HEB.out 3
      have e4 : W.cell? ⟨E, 4, none⟩ = some (.int .i64 0) := Blk.c HEB.out 4
      have e5 : W.cell? ⟨E, 5, none⟩ = some (.string ⟨d.toArray⟩) := Blk.c HEB.out 5
      have e6 : W.cell? ⟨E, 6, none⟩ = some (.slice fa fl fc) := Blk.c HEB.out 6
      unfold actC at cE
      clear hM hlen
      go_upto_region 8 with (first
        | (go_at_call 35; (with_reducible refine cE.mono ?_); rintro e w1 ⟨ea, ec, rfl, hRe, hze, hxe⟩; have HRe := Hid.of hRe; have HZe := Hid.of hze; have HXe := Hid.of hxe; clear hRe hze hxe cE))
      clear e0 e1 e2 e3 e4 e5 e6 c3
      obtain ⟨es, hes⟩ : ∃ x, x = eList first all.length T d M := ⟨_, rfl⟩
      have happ := eList_app first all T d hd M
      have hesl : es.length = M := by rw [hes, eList_len]
      have hesok : AllOk es := by rw [hes]; exact eList_ok _ _ _ _ hd _
      have hR1 := HRe.out
      have hi64 := eList_i64 first all.length T d hd M (by omega) (by omega) (by have := HLen.out; omega) (by omega)
      rw [← hes] at happ hR1 hi64
      have hS1 := HR.out.1.addV HXe.out (.slice ea M ec) HZe.out
      have hRv1 := HR.out.2.keep HXe.out (by simp)
      have hB1 := Blk.keep HEB.out HXe.out List.not_mem_nil
      rw [← HLen.out] at hS1 hRv1 happ
      have ca := hS1.append es ea M ec hR1 (fun z hz => by simp [hz]) hi64
      rw [happ] at ca
      have cq : w1.cell? ⟨wq, 1, none⟩ = some (.pointer (some ⟨q, 0, none⟩)) := Blk.c hS1.blk 1
      have HR1 := Hid.of hR1
      have HRv1 := Hid.of hRv1
      have HB1 := Hid.of hB1
      have HApp := Hid.of happ
      have HEs := Hid.of (And.intro hesl hesok)
      clear hes hesl hesok hR1 hi64 hS1 hRv1 hB1 happ
      by_cases hfull : 8 - (len : Int) < (M : Int)
      · rw [if_pos hfull] at ca
        have haA : appA8 first all es = all := if_neg (by rw [HApp.out, if_pos hfull]; decide)
        rw [haA] at ca
        clear haA
        go_upto_region 9 with (first
          | (go_at_call 26; (with_reducible refine ca.mono ?_); rintro e w2 ⟨rfl, h2, hk2⟩; have H2 := Hid.of h2; have HK2 := Hid.of hk2; clear h2 hk2 ca))
        clear cq
        have c3 : w2.cell? ⟨wq, 3, none⟩ = some (.slice a len cap) := Blk.c H2.out.blk 3
        go_wp2
        go_ret
        refine ⟨rfl, b, q, first, vm, all, a, cap, ⟨?_, ?_⟩, HA.out, f1, by omega⟩
        · rw [← HLen.out]; exact H2.out.sub (fun z hz => by simp only [List.mem_append, List.mem_cons] at hz ⊢; rcases hz with h | h; exact .inr (.inl h); exact .inr (.inr (.inr h)))
        · rw [← HLen.out]; exact HK2.out.rd HRv1.out (fun z hz => by simp [hz])
      · rw [if_neg hfull] at ca
        have haA : appA8 first all es = all ++ es := if_pos (by rw [HApp.out, if_neg hfull])
        rw [haA] at ca
        clear haA
        go_upto_region 9 with (first
          | (go_at_call 26; (with_reducible refine ca.mono ?_); rintro e w2 ⟨rfl, h2, hk2⟩; have H2 := Hid.of h2; have HK2 := Hid.of hk2; clear h2 hk2 ca))
        clear cq
        have c3 : w2.cell? ⟨wq, 3, none⟩ = some (.slice a len cap) := Blk.c H2.out.blk 3
        have f3 := Blk.f H2.out.blk 3
        have hV2 := HK2.out.rd HRv1.out (fun z hz => by simp [hz])
        have hL2 := HK2.out.rd HR1.out (fun z hz => by simp [hz])
        have hcap : len ≤ cap := hV2.len.2.1
        have hlm : len + M ≤ 12 := by omega
        have HV2 := Hid.of hV2
        have HL2 := Hid.of hL2
        go_upto_region 12 with fail
        go_wp2_with (first
          | (refine wpl_slice3 a len cap rfl rfl rfl hcap ?_)
          | (refine wpl_append_full (d := some 70) 37 (.agg #[.int .i64 0, .int .i64 0, .string ByteArray.empty]) 3 32 el_ents a len (all.flatMap Ent.cells) ?_ hV2.full (.slice ea M ec) M (es.flatMap Ent.cells) ?_ hL2 (by omega) (by unfold maxLen; omega) ?_))
        · rfl
        · rfl
        intro v3 w3 hr3 hx3 hv3
        obtain ⟨a3, k3, rfl⟩ := Rd.isSlice hr3
        have hb3 := Blk.keep H2.out.blk hx3 List.not_mem_nil
        have d3 : w3.cell? ⟨wq, 3, none⟩ = some (.slice a len cap) := Blk.c hb3 3
        have g3 := Blk.f hb3 3
        have hln2 : (all ++ es).length = len + M := by rw [List.length_append, ← HLen.out, HEs.out.1]
        rw [← List.flatMap_append] at hr3
        have hN := (H2.out.sub (O' := vblocks (.slice a len cap) ++ (E :: O)) (fun z hz => by simp only [List.mem_append, List.mem_cons] at hz ⊢; rcases hz with h | h; exact .inr (.inl h); exact .inr (.inr h))).newAll hx3 hr3 hln2 hv3
        have hx34 : Ext [wq] w3 (w3.setCell ⟨wq, 3, none⟩ (.slice a3 (len + M) k3)) := (Ext.refl [wq] w3).setCell (.inl (by simp)) _
        have hq1 := HR.out.1.new0
        have hV4 : Rd (w3.setCell ⟨wq, 3, none⟩ (.slice a3 (len + M) k3)) 3 (.slice a len cap) len (all.flatMap Ent.cells) := (HV2.out.keep hx3 (by simp)).keep hx34 (fun z hz hm => by simp at hm; subst hm; exact hq1.2.2 (by rw [← HLen.out]; simp [hz]))
        have hL4 : Rd (w3.setCell ⟨wq, 3, none⟩ (.slice a3 (len + M) k3)) 3 (.slice ea M ec) M (es.flatMap Ent.cells) := (HL2.out.keep hx3 (by simp)).keep hx34 (fun z hz hm => by simp at hm; subst hm; have := HZe.out _ hz; omega)
        have HN := Hid.of hN
        have HE4 : Hid (Blk (w3.setCell ⟨wq, 3, none⟩ (.slice a3 (len + M) k3)) E 29 (actC K N T B 0 d (.slice fa fl fc))) := Hid.of (hN.2.blk (Blk.keep (HK2.out.blk HB1.out (by simp)) hx3 List.not_mem_nil) (by simp))
        have h4c : (w3.setCell ⟨wq, 3, none⟩ (.slice a3 (len + M) k3)).cell? ⟨wq, 4, none⟩ = some vm := Blk.c hN.1.1.blk 4
        have h4f := Blk.f hN.1.1.blk 4
        clear hr3 hx3 hv3 hb3 hN hx34 hV2 hL2 c3 f3 HV2 HL2 HK2 H2
        go_upto_region 15 with fail
        obtain ⟨w4, hw4⟩ : ∃ W, W = w3.setCell ⟨wq, 3, none⟩ (.slice a3 (len + M) k3) := ⟨_, rfl⟩
        rw [← hw4] at hV4 hL4 HN HE4 h4c h4f ⊢
        clear hw4 d3 g3
        go_wp2_with (first
          | (refine wpl_slice3 a len cap rfl rfl rfl hcap ?_)
          | (refine wpl_append_full (d := some 83) 37 (.agg #[.int .i64 0, .int .i64 0, .string ByteArray.empty]) 3 32 el_ents a len (all.flatMap Ent.cells) ?_ hV4.full (.slice ea M ec) M (es.flatMap Ent.cells) ?_ hL4 (by omega) (by unfold maxLen; omega) ?_))
        · rfl
        · rfl
        intro v5 w5 hr5 hx5 hv5
        obtain ⟨a5, k5, rfl⟩ := Rd.isSlice hr5
        have HN5 := Hid.of (HN.out.1.keep hx5)
        have HE5 := Hid.of (Blk.keep HE4.out hx5 List.not_mem_nil)
        have h5c : w5.cell? ⟨wq, 4, none⟩ = some vm := Blk.c HN5.out.1.blk 4
        have h5f := Blk.f HN5.out.1.blk 4
        clear hr5 hx5 hv5 hV4 hL4 h4c h4f HN HE4
        go_wp2
        go_meet
        have hfin := HN5.out.setMay (.slice a5 (len + M) k5)
        exact ⟨b, q, first, .slice a5 (len + M) k5, all ++ es, a3, k3, by rw [hln2] at hfin; exact hfin.1, hfin.2.blk HE5.out (by simp), fun e he => by rcases List.mem_append.1 he with h | h; exact HA.out e h; exact HEs.out.2 e h, f1, by omega⟩
    · have hbW2 := HR.out.1.blk
      have hEW := HEB.out
      obtain ⟨nn, hnn⟩ : ∃ nn : Nat, min (B % 4) (len : Int) = (nn : Int) := ⟨(min (B % 4) (len : Int)).toNat, by omega⟩
      have hnl : nn ≤ len := by omega
      have hn3 : nn ≤ 3 := by omega
      obtain ⟨kk, hkk⟩ : ∃ kk : Nat, (len : Int) - (nn : Int) = (kk : Int) := ⟨len - nn, by omega⟩
      have hkl : kk = len - nn := by omega
      have c3' := fun w' (hx : Ext [] W w') => Blk.c (Blk.keep hbW2 hx List.not_mem_nil) 3
      simp only [List.getElem?_cons_zero, List.getElem?_cons_succ, ← HLen.out] at c3'
      have cB : ∀ w' (hx : Ext [] W w'), w'.cell? ⟨E, 3, none⟩ = some (.int .i64 B) := fun w' hx => Blk.c (Blk.keep hEW hx List.not_mem_nil) 3
      have HNn := Hid.of hnn
      have HKl := Hid.of hkl
      by_cases h44 : k7 = 4
      · subst h44
        clear h4 hbW2 hEW hkl hkk hnn
        go_upto_region 17 with fail
        have hmin := HNn.out
        clear c3
        have c3 := c3'
        refine wp_region_stepsg [89, 90, 91, 92, 93, 94, 95, 96, 97, 9] (fun n y _ => match n with | 0 => y = .pointer (some ⟨E, 3, none⟩) | 1 => y = .int .i64 B | 2 => y = .int .i64 (B % 4) | 3 => y = .pointer (some ⟨wq, 0, none⟩) | 4 => y = .pointer (some ⟨wq, 0, none⟩) | 5 => y = .pointer (some ⟨wq, 3, none⟩) | 6 => y = .slice a len cap | 7 => y = .int .i64 (len) | 8 => y = .int .i64 (nn) | 9 => y = .int .i64 (nn) | _ => True) (by kernel_rfl) (by kernel_rfl) (fun n y w1 w2 h hx => h) ?_ ?_
        · refine ⟨?f0_17, ?f1_17, ?f2_17, ?f3_17, ?f4_17, ?f5_17, ?f6_17, ?f7_17, ?f8_17, ?f9_17, trivial⟩
          case f0_17 =>
            intro g w' hx hd
            refine op_run rfl ?_
            generalize hA : mkAct _ _ g = A
            have h3 : A.tmps[3]?.getD undef = .pointer (some ⟨E, 0, none⟩) := by rw [← hA]; exact mkAct_out2 _ _ _ _ _ rfl rfl
            refine step_val (v := .pointer (some ⟨E, 3, none⟩)) (w' := w') ?_ ⟨_, rfl, Ext.refl _ _, rfl⟩
            simp [execOp, h3, Result.andThen, go_sem]
          case f1_17 =>
            intro g w' hx hd
            refine op_run rfl ?_
            have e89 : g 89 = .pointer (some ⟨E, 3, none⟩) := hd ⟨0, .data⟩ (by simp) rfl
            generalize hA : mkAct _ _ g = A
            have h89 : A.tmps[89]?.getD undef = .pointer (some ⟨E, 3, none⟩) := by rw [← hA, mkAct_in2 _ _ _ _ rfl rfl]; exact e89
            have c := cB w' hx
            refine step_val (v := .int .i64 B) (w' := w') ?_ ⟨_, rfl, Ext.refl _ _, rfl⟩
            simp [execOp, h89, c, Result.andThen, go_sem]
          case f2_17 =>
            intro g w' hx hd
            refine op_run rfl ?_
            have e90 : g 90 = .int .i64 B := hd ⟨1, .data⟩ (by simp) rfl
            generalize hA : mkAct _ _ g = A
            have h90 : A.tmps[90]?.getD undef = .int .i64 B := by rw [← hA, mkAct_in2 _ _ _ _ rfl rfl]; exact e90
            refine step_val (v := .int .i64 (B % 4)) (w' := w') ?_ ⟨_, rfl, Ext.refl _ _, rfl⟩
            simp [execOp, h90, Result.andThen, go_sem]
          case f3_17 =>
            intro g w' hx hd
            refine op_run rfl ?_
            generalize hA : mkAct _ _ g = A
            have h0 : A.tmps[0]?.getD undef = .pointer (some ⟨wq, 0, none⟩) := by rw [← hA]; exact mkAct_out2 _ _ _ _ _ rfl rfl
            refine step_val (v := .pointer (some ⟨wq, 0, none⟩)) (w' := w') ?_ ⟨_, rfl, Ext.refl _ _, rfl⟩
            simp [execOp, h0, Result.andThen, go_sem]
          case f4_17 =>
            intro g w' hx hd
            refine op_run rfl ?_
            have e92 : g 92 = .pointer (some ⟨wq, 0, none⟩) := hd ⟨3, .data⟩ (by simp) rfl
            generalize hA : mkAct _ _ g = A
            have h92 : A.tmps[92]?.getD undef = .pointer (some ⟨wq, 0, none⟩) := by rw [← hA, mkAct_in2 _ _ _ _ rfl rfl]; exact e92
            refine step_val (v := .pointer (some ⟨wq, 0, none⟩)) (w' := w') ?_ ⟨_, rfl, Ext.refl _ _, rfl⟩
            simp [execOp, h92, Result.andThen, go_sem]
          case f5_17 =>
            intro g w' hx hd
            refine op_run rfl ?_
            have e93 : g 93 = .pointer (some ⟨wq, 0, none⟩) := hd ⟨4, .data⟩ (by simp) rfl
            generalize hA : mkAct _ _ g = A
            have h93 : A.tmps[93]?.getD undef = .pointer (some ⟨wq, 0, none⟩) := by rw [← hA, mkAct_in2 _ _ _ _ rfl rfl]; exact e93
            refine step_val (v := .pointer (some ⟨wq, 3, none⟩)) (w' := w') ?_ ⟨_, rfl, Ext.refl _ _, rfl⟩
            simp [execOp, h93, Result.andThen, go_sem]
          case f6_17 =>
            intro g w' hx hd
            refine op_run rfl ?_
            have e94 : g 94 = .pointer (some ⟨wq, 3, none⟩) := hd ⟨5, .data⟩ (by simp) rfl
            generalize hA : mkAct _ _ g = A
            have h94 : A.tmps[94]?.getD undef = .pointer (some ⟨wq, 3, none⟩) := by rw [← hA, mkAct_in2 _ _ _ _ rfl rfl]; exact e94
            have c := c3 w' hx
            refine step_val (v := .slice a len cap) (w' := w') ?_ ⟨_, rfl, Ext.refl _ _, rfl⟩
            simp [execOp, h94, c, Result.andThen, go_sem]
          case f7_17 =>
            intro g w' hx hd
            refine op_run rfl ?_
            have e95 : g 95 = .slice a len cap := hd ⟨6, .data⟩ (by simp) rfl
            generalize hA : mkAct _ _ g = A
            have h95 : A.tmps[95]?.getD undef = .slice a len cap := by rw [← hA, mkAct_in2 _ _ _ _ rfl rfl]; exact e95
            refine step_val (v := .int .i64 (len)) (w' := w') ?_ ⟨_, rfl, Ext.refl _ _, rfl⟩
            simp [execOp, h95, Result.andThen, go_sem]
          case f8_17 =>
            intro g w' hx hd
            refine op_run rfl ?_
            have e91 : g 91 = .int .i64 (B % 4) := hd ⟨2, .data⟩ (by simp) rfl
            have e96 : g 96 = .int .i64 (len) := hd ⟨7, .data⟩ (by simp) rfl
            generalize hA : mkAct _ _ g = A
            have h91 : A.tmps[91]?.getD undef = .int .i64 (B % 4) := by rw [← hA, mkAct_in2 _ _ _ _ rfl rfl]; exact e91
            have h96 : A.tmps[96]?.getD undef = .int .i64 (len) := by rw [← hA, mkAct_in2 _ _ _ _ rfl rfl]; exact e96
            refine step_val (v := .int .i64 (nn)) (w' := w') ?_ ⟨_, rfl, Ext.refl _ _, rfl⟩
            simp [execOp, run_min2, hmin, h91, h96, Result.andThen, go_sem]
          case f9_17 =>
            intro g w' hx hd
            refine op_run rfl ?_
            have e97 : g 97 = .int .i64 (nn) := hd ⟨8, .data⟩ (by simp) rfl
            generalize hA : mkAct _ _ g = A
            have h97 : A.tmps[97]?.getD undef = .int .i64 (nn) := by rw [← hA, mkAct_in2 _ _ _ _ rfl rfl]; exact e97
            refine step_val (v := .int .i64 (nn)) (w' := w') ?_ ⟨_, rfl, Ext.refl _ _, rfl⟩
            simp [execOp, h97, Result.andThen, go_sem]
        intro g wn hxn hd
        have e9 : g 9 = .int .i64 (nn) := hd 9 (by decide)
        clear hd c3 c3' cB hmin
        unfold mkAct; simp only [List.zipIdx_cons, List.zipIdx_nil, List.map_cons, List.map_nil, Nat.zero_add, Nat.reduceAdd, List.contains_cons, List.contains_nil, Nat.reduceBEq, Bool.or_false, Bool.or_true, ↓reduceIte, Bool.false_eq_true]
        rw [e9]
        clear e9
        obtain ⟨w18, hw18⟩ : ∃ W, W = wn := ⟨_, rfl⟩
        rw [← hw18] at hxn ⊢
        clear hw18
        obtain ⟨O1, hO1⟩ : ∃ x, x = vblocks (.slice a len cap) ++ (E :: O) := ⟨_, rfl⟩
        have hS18 := (HR.out.1.keep hxn)
        rw [← HLen.out, ← hO1] at hS18
        have hb18 := hS18.blk
        have c1 := fun w' (hx : Ext [] w18 w') => Blk.c (Blk.keep hb18 hx List.not_mem_nil) 1
        have c2 := fun w' (hx : Ext [] w18 w') => Blk.c (Blk.keep hb18 hx List.not_mem_nil) 2
        have c3 := fun w' (hx : Ext [] w18 w') => Blk.c (Blk.keep hb18 hx List.not_mem_nil) 3
        simp only [List.getElem?_cons_zero, List.getElem?_cons_succ] at c1 c2 c3
        have cC : ∀ w', Ext [] w18 w' → Calls Try.prog 30 #[.pointer (some ⟨q, 0, none⟩), .int .i64 (first + (len : Int) - (nn : Int))] w' fun e w2 => e = .returned (.int .i64 0) ∧ CutMid w0 w18 w2 wq b q first (.slice a len cap) vm (all.take (len - nn)) O1 := by
          intro w' hx
          have hln := HLen.out
          by_cases hn0 : nn = 0
          · subst hn0
            have h1 := (hS18.keep hx).cut_end
            rw [← hln] at h1
            rw [show first + (len : Int) - ((0 : Nat) : Int) = first + (len : Int) by omega]
            refine h1.mono ?_
            rintro e w2 ⟨he, hx2⟩
            refine ⟨he, ?_, Kept.of (hx.then0 hx2)⟩
            rw [Nat.sub_zero, List.take_of_length_le (by omega)]
            exact hS18.keep (hx.then0 hx2)
          · have h1 := (hS18.keep hx).cutc (len - nn) (by omega)
            rw [show first + ((len - nn : Nat) : Int) = first + (len : Int) - (nn : Int) by omega] at h1
            refine h1.mono ?_
            rintro e w2 ⟨he, h2, hk2⟩
            exact ⟨he, h2, (Kept.of hx).trans hk2⟩
        have HR18 := Hid.of (HR.out.2.keep hxn (by simp))
        have HB18 := Hid.of (Blk.keep HEB.out hxn List.not_mem_nil)
        have HO1 := Hid.of hO1
        have HCC := Hid.of cC
        clear hb18 hS18 hO1 cC hxn HR HEB
        go_upto_region 18 with fail
        have cC := HCC.out
        refine wp_region_stepsm [98, 99, 100, 101, 102, 103, 104, 105, 106, 107, 108, 109, 110, 111, 112, 113, 114, 10] 16 (do18Φ wq q first a len cap nn) (do18ΦT wq q first a len cap nn) (fun v w => v = .int .i64 0 ∧ CutMid w0 w18 w wq b q first (.slice a len cap) vm (all.take (len - nn)) O1) (fun v n y => match n with | 17 => y = v | _ => True) (by kernel_rfl) (by kernel_rfl) (fun n y w w' h hx => h) (fun n y w' hn h => by unfold do18Φ at h; unfold do18ΦT; split at h <;> first | exact h | trivial) ?hst_18 ?hend_18
        case hst_18 =>
          refine ⟨?f0_18, ?f1_18, ?f2_18, ?f3_18, ?f4_18, ?f5_18, ?f6_18, ?f7_18, ?f8_18, ?f9_18, ?f10_18, ?f11_18, ?f12_18, ?f13_18, ?f14_18, ?f15_18, ?f16_18, ?f17_18, trivial⟩
          case f0_18 =>
            refine (if_pos (by decide)).mpr ?_
            intro g w' hx hd hb
            refine op_run rfl ?_
            generalize hA : mkAct _ _ g = A
            have h0 : A.tmps[0]?.getD undef = .pointer (some ⟨wq, 0, none⟩) := by rw [← hA]; exact mkAct_out2 _ _ _ _ _ rfl rfl
            refine step_val (v := .pointer (some ⟨wq, 0, none⟩)) (w' := w') ?_ ⟨_, rfl, Ext.refl _ _, rfl⟩
            simp [execOp, h0, Result.andThen, go_sem]
          case f1_18 =>
            refine (if_pos (by decide)).mpr ?_
            intro g w' hx hd hb
            refine op_run rfl ?_
            have e98 : g 98 = .pointer (some ⟨wq, 0, none⟩) := hd ⟨0, .data⟩ (by simp) rfl
            generalize hA : mkAct _ _ g = A
            have h98 : A.tmps[98]?.getD undef = .pointer (some ⟨wq, 0, none⟩) := by rw [← hA, mkAct_in2 _ _ _ _ rfl rfl]; exact e98
            refine step_val (v := .pointer (some ⟨wq, 0, none⟩)) (w' := w') ?_ ⟨_, rfl, Ext.refl _ _, rfl⟩
            simp [execOp, h98, Result.andThen, go_sem]
          case f2_18 =>
            refine (if_pos (by decide)).mpr ?_
            intro g w' hx hd hb
            refine op_run rfl ?_
            have e99 : g 99 = .pointer (some ⟨wq, 0, none⟩) := hd ⟨1, .data⟩ (by simp) rfl
            generalize hA : mkAct _ _ g = A
            have h99 : A.tmps[99]?.getD undef = .pointer (some ⟨wq, 0, none⟩) := by rw [← hA, mkAct_in2 _ _ _ _ rfl rfl]; exact e99
            refine step_val (v := .pointer (some ⟨wq, 1, none⟩)) (w' := w') ?_ ⟨_, rfl, Ext.refl _ _, rfl⟩
            simp [execOp, h99, Result.andThen, go_sem]
          case f3_18 =>
            refine (if_pos (by decide)).mpr ?_
            intro g w' hx hd hb
            refine op_run rfl ?_
            have e100 : g 100 = .pointer (some ⟨wq, 1, none⟩) := hd ⟨2, .data⟩ (by simp) rfl
            generalize hA : mkAct _ _ g = A
            have h100 : A.tmps[100]?.getD undef = .pointer (some ⟨wq, 1, none⟩) := by rw [← hA, mkAct_in2 _ _ _ _ rfl rfl]; exact e100
            have c := c1 w' hx
            refine step_val (v := .pointer (some ⟨q, 0, none⟩)) (w' := w') ?_ ⟨_, rfl, Ext.refl _ _, rfl⟩
            simp [execOp, h100, c, Result.andThen, go_sem]
          case f4_18 =>
            refine (if_pos (by decide)).mpr ?_
            intro g w' hx hd hb
            refine op_run rfl ?_
            generalize hA : mkAct _ _ g = A
            have h0 : A.tmps[0]?.getD undef = .pointer (some ⟨wq, 0, none⟩) := by rw [← hA]; exact mkAct_out2 _ _ _ _ _ rfl rfl
            refine step_val (v := .pointer (some ⟨wq, 0, none⟩)) (w' := w') ?_ ⟨_, rfl, Ext.refl _ _, rfl⟩
            simp [execOp, h0, Result.andThen, go_sem]
          case f5_18 =>
            refine (if_pos (by decide)).mpr ?_
            intro g w' hx hd hb
            refine op_run rfl ?_
            have e102 : g 102 = .pointer (some ⟨wq, 0, none⟩) := hd ⟨4, .data⟩ (by simp) rfl
            generalize hA : mkAct _ _ g = A
            have h102 : A.tmps[102]?.getD undef = .pointer (some ⟨wq, 0, none⟩) := by rw [← hA, mkAct_in2 _ _ _ _ rfl rfl]; exact e102
            refine step_val (v := .pointer (some ⟨wq, 0, none⟩)) (w' := w') ?_ ⟨_, rfl, Ext.refl _ _, rfl⟩
            simp [execOp, h102, Result.andThen, go_sem]
          case f6_18 =>
            refine (if_pos (by decide)).mpr ?_
            intro g w' hx hd hb
            refine op_run rfl ?_
            have e103 : g 103 = .pointer (some ⟨wq, 0, none⟩) := hd ⟨5, .data⟩ (by simp) rfl
            generalize hA : mkAct _ _ g = A
            have h103 : A.tmps[103]?.getD undef = .pointer (some ⟨wq, 0, none⟩) := by rw [← hA, mkAct_in2 _ _ _ _ rfl rfl]; exact e103
            refine step_val (v := .pointer (some ⟨wq, 2, none⟩)) (w' := w') ?_ ⟨_, rfl, Ext.refl _ _, rfl⟩
            simp [execOp, h103, Result.andThen, go_sem]
          case f7_18 =>
            refine (if_pos (by decide)).mpr ?_
            intro g w' hx hd hb
            refine op_run rfl ?_
            have e104 : g 104 = .pointer (some ⟨wq, 2, none⟩) := hd ⟨6, .data⟩ (by simp) rfl
            generalize hA : mkAct _ _ g = A
            have h104 : A.tmps[104]?.getD undef = .pointer (some ⟨wq, 2, none⟩) := by rw [← hA, mkAct_in2 _ _ _ _ rfl rfl]; exact e104
            have c := c2 w' hx
            refine step_val (v := .int .i64 first) (w' := w') ?_ ⟨_, rfl, Ext.refl _ _, rfl⟩
            simp [execOp, h104, c, Result.andThen, go_sem]
          case f8_18 =>
            refine (if_pos (by decide)).mpr ?_
            intro g w' hx hd hb
            refine op_run rfl ?_
            generalize hA : mkAct _ _ g = A
            have h0 : A.tmps[0]?.getD undef = .pointer (some ⟨wq, 0, none⟩) := by rw [← hA]; exact mkAct_out2 _ _ _ _ _ rfl rfl
            refine step_val (v := .pointer (some ⟨wq, 0, none⟩)) (w' := w') ?_ ⟨_, rfl, Ext.refl _ _, rfl⟩
            simp [execOp, h0, Result.andThen, go_sem]
          case f9_18 =>
            refine (if_pos (by decide)).mpr ?_
            intro g w' hx hd hb
            refine op_run rfl ?_
            have e106 : g 106 = .pointer (some ⟨wq, 0, none⟩) := hd ⟨8, .data⟩ (by simp) rfl
            generalize hA : mkAct _ _ g = A
            have h106 : A.tmps[106]?.getD undef = .pointer (some ⟨wq, 0, none⟩) := by rw [← hA, mkAct_in2 _ _ _ _ rfl rfl]; exact e106
            refine step_val (v := .pointer (some ⟨wq, 0, none⟩)) (w' := w') ?_ ⟨_, rfl, Ext.refl _ _, rfl⟩
            simp [execOp, h106, Result.andThen, go_sem]
          case f10_18 =>
            refine (if_pos (by decide)).mpr ?_
            intro g w' hx hd hb
            refine op_run rfl ?_
            have e107 : g 107 = .pointer (some ⟨wq, 0, none⟩) := hd ⟨9, .data⟩ (by simp) rfl
            generalize hA : mkAct _ _ g = A
            have h107 : A.tmps[107]?.getD undef = .pointer (some ⟨wq, 0, none⟩) := by rw [← hA, mkAct_in2 _ _ _ _ rfl rfl]; exact e107
            refine step_val (v := .pointer (some ⟨wq, 3, none⟩)) (w' := w') ?_ ⟨_, rfl, Ext.refl _ _, rfl⟩
            simp [execOp, h107, Result.andThen, go_sem]
          case f11_18 =>
            refine (if_pos (by decide)).mpr ?_
            intro g w' hx hd hb
            refine op_run rfl ?_
            have e108 : g 108 = .pointer (some ⟨wq, 3, none⟩) := hd ⟨10, .data⟩ (by simp) rfl
            generalize hA : mkAct _ _ g = A
            have h108 : A.tmps[108]?.getD undef = .pointer (some ⟨wq, 3, none⟩) := by rw [← hA, mkAct_in2 _ _ _ _ rfl rfl]; exact e108
            have c := c3 w' hx
            refine step_val (v := .slice a len cap) (w' := w') ?_ ⟨_, rfl, Ext.refl _ _, rfl⟩
            simp [execOp, h108, c, Result.andThen, go_sem]
          case f12_18 =>
            refine (if_pos (by decide)).mpr ?_
            intro g w' hx hd hb
            refine op_run rfl ?_
            have e109 : g 109 = .slice a len cap := hd ⟨11, .data⟩ (by simp) rfl
            generalize hA : mkAct _ _ g = A
            have h109 : A.tmps[109]?.getD undef = .slice a len cap := by rw [← hA, mkAct_in2 _ _ _ _ rfl rfl]; exact e109
            refine step_val (v := .int .i64 (len)) (w' := w') ?_ ⟨_, rfl, Ext.refl _ _, rfl⟩
            simp [execOp, h109, Result.andThen, go_sem]
          case f13_18 =>
            refine (if_pos (by decide)).mpr ?_
            intro g w' hx hd hb
            refine op_run rfl ?_
            have e105 : g 105 = .int .i64 first := hd ⟨7, .data⟩ (by simp) rfl
            have e110 : g 110 = .int .i64 (len) := hd ⟨12, .data⟩ (by simp) rfl
            generalize hA : mkAct _ _ g = A
            have h105 : A.tmps[105]?.getD undef = .int .i64 first := by rw [← hA, mkAct_in2 _ _ _ _ rfl rfl]; exact e105
            have h110 : A.tmps[110]?.getD undef = .int .i64 (len) := by rw [← hA, mkAct_in2 _ _ _ _ rfl rfl]; exact e110
            refine step_val (v := .int .i64 (first + (len : Int))) (w' := w') ?_ ⟨_, rfl, Ext.refl _ _, rfl⟩
            simp [execOp, h105, h110, Result.andThen, go_sem]
            exact IntWalk.i64_in _ ⟨by omega, by omega⟩
          case f14_18 =>
            refine (if_pos (by decide)).mpr ?_
            intro g w' hx hd hb
            refine op_run rfl ?_
            generalize hA : mkAct _ _ g = A
            have h9 : A.tmps[9]?.getD undef = .int .i64 (nn) := by rw [← hA]; exact mkAct_out2 _ _ _ _ _ rfl rfl
            refine step_val (v := .int .i64 (nn)) (w' := w') ?_ ⟨_, rfl, Ext.refl _ _, rfl⟩
            simp [execOp, h9, Result.andThen, go_sem]
          case f15_18 =>
            refine (if_pos (by decide)).mpr ?_
            intro g w' hx hd hb
            refine op_run rfl ?_
            have e111 : g 111 = .int .i64 (first + (len : Int)) := hd ⟨13, .data⟩ (by simp) rfl
            have e112 : g 112 = .int .i64 (nn) := hd ⟨14, .data⟩ (by simp) rfl
            generalize hA : mkAct _ _ g = A
            have h111 : A.tmps[111]?.getD undef = .int .i64 (first + (len : Int)) := by rw [← hA, mkAct_in2 _ _ _ _ rfl rfl]; exact e111
            have h112 : A.tmps[112]?.getD undef = .int .i64 (nn) := by rw [← hA, mkAct_in2 _ _ _ _ rfl rfl]; exact e112
            refine step_val (v := .int .i64 (first + (len : Int) - (nn : Int))) (w' := w') ?_ ⟨_, rfl, Ext.refl _ _, rfl⟩
            simp [execOp, h111, h112, Result.andThen, go_sem]
            exact IntWalk.i64_in _ ⟨by omega, by omega⟩
          case f16_18 =>
            refine (if_neg (by decide)).mpr ((if_pos rfl).mpr ?_)
            intro g w' hx hd hb
            refine op_run rfl ?_
            have e101 : g 101 = .pointer (some ⟨q, 0, none⟩) := hd 3 (by decide)
            have e113 : g 113 = .int .i64 (first + (len : Int) - (nn : Int)) := hd 15 (by decide)
            generalize hA : mkAct _ _ g = A
            have h101 : A.tmps[101]?.getD undef = .pointer (some ⟨q, 0, none⟩) := by rw [← hA, mkAct_in2 _ _ _ _ rfl rfl]; exact e101
            have h113 : A.tmps[113]?.getD undef = .int .i64 (first + (len : Int) - (nn : Int)) := by rw [← hA, mkAct_in2 _ _ _ _ rfl rfl]; exact e113
            refine mid_k (fun K hK => ?_)
            go_simp
            refine (cC w' hx).mono ?_
            rintro e w2 ⟨rfl, hC2⟩
            exact hK (.int .i64 0) w2 ⟨rfl, hC2⟩
          case f17_18 =>
            refine (if_neg (by decide)).mpr ((if_neg (by decide)).mpr ?_)
            intro g v w' hM hT hv hd
            refine op_run rfl ?_
            obtain ⟨rfl, -⟩ := hM
            have e114 := hv (Option.some_ne_none _)
            replace e114 : g 114 = _ := e114
            generalize hA : mkAct _ _ g = A
            have h114 : A.tmps[114]?.getD undef = g 114 := by rw [← hA]; exact mkAct_in2 _ _ _ _ rfl rfl
            rw [e114] at h114
            refine step_val (w' := w') ?_ ⟨_, rfl, rfl, rfl⟩
            simp [execOp, h114, tupAt, Result.andThen, go_sem]
        intro g v wn hM hT hv hd
        obtain ⟨rfl, hC⟩ := hM
        have e10 : g 10 = .int .i64 0 := hd 17 (by decide) (by decide)
        clear hd hv hT cC c1 c2 c3 HCC
        unfold mkAct; simp only [List.zipIdx_cons, List.zipIdx_nil, List.map_cons, List.map_nil, Nat.zero_add, Nat.reduceAdd, List.contains_cons, List.contains_nil, Nat.reduceBEq, Bool.or_false, Bool.or_true, ↓reduceIte, Bool.false_eq_true]
        rw [e10]
        clear e10
        have d3 : wn.cell? ⟨wq, 3, none⟩ = some (.slice a len cap) := Blk.c hC.1.blk 3
        have d4 : wn.cell? ⟨wq, 4, none⟩ = some vm := Blk.c hC.1.blk 4
        have g3 := Blk.f hC.1.blk 3
        have g4 := Blk.f hC.1.blk 4
        have hVn := hC.2.rd HR18.out (fun z hz => by rw [HO1.out]; rw [← HLen.out] at hz; simp [hz])
        have hcap : len ≤ cap := by have := hVn.len.2.1; rw [← HLen.out] at this; exact this
        have hkc : kk ≤ cap := by have := HKl.out; omega
        obtain ⟨kk2, hkk2⟩ : ∃ kk2 : Nat, (len : Int) - (nn : Int) = (kk2 : Int) := ⟨kk, by have := HKl.out; omega⟩
        have hkk3 : kk2 = kk := by have := HKl.out; omega
        subst hkk3
        have HC := Hid.of hC
        have HVn := Hid.of hVn
        clear hC hVn
        go_upto_region 22 with fail
        go_wp2_with (first
          | (refine wpl_sliceH a len kk2 cap ?_ ?_ hkc ?_))
        · rfl
        · rfl
        go_meet
        have hb5 := Blk.set (Blk.set (Blk.set HC.out.1.blk 4 (.slice a len cap)) 3 (.slice a kk2 cap)) 4 (.slice none 0 0)
        have hx5 : Ext [wq] wn (((wn.setCell ⟨wq, 4, none⟩ (.slice a len cap)).setCell ⟨wq, 3, none⟩ (.slice a kk2 cap)).setCell ⟨wq, 4, none⟩ (.slice none 0 0)) := (((Ext.refl [wq] wn).setCell (.inl (by simp)) _).setCell (.inl (by simp)) _).setCell (.inl (by simp)) _
        have h5 := HC.out.1.set hx5 hb5 rfl
        have hkk4 : len - nn = kk2 := HKl.out.symm
        have hle : kk2 ≤ all.length := by rw [← HLen.out]; omega
        rw [hkk4, HO1.out] at h5
        have hK5 := HC.out.2
        rw [HO1.out] at hK5
        refine ⟨b, q, first, _, all.take kk2, a, cap, RSt.ofFront h5.1 (h5.2.rd HVn.out (fun z hz => ?_)) hle, h5.2.blk (hK5.blk HB18.out (by simp)) (by simp), fun e he => HA.out e (List.mem_of_mem_take he), f1, by omega⟩
        rw [vb_any a all.length len cap cap] at hz
        simp [hz]
      · by_cases h55 : k7 = 5
        · subst h55
          clear h4 h44 hbW2 hEW hkl hkk hnn
          go_upto_region 27 with fail
          have hmin := HNn.out
          clear c3
          have c3 := c3'
          refine wp_region_stepsg [146, 147, 148, 149, 150, 151, 152, 153, 154, 11] (fun n y _ => match n with | 0 => y = .pointer (some ⟨E, 3, none⟩) | 1 => y = .int .i64 B | 2 => y = .int .i64 (B % 4) | 3 => y = .pointer (some ⟨wq, 0, none⟩) | 4 => y = .pointer (some ⟨wq, 0, none⟩) | 5 => y = .pointer (some ⟨wq, 3, none⟩) | 6 => y = .slice a len cap | 7 => y = .int .i64 (len) | 8 => y = .int .i64 (nn) | 9 => y = .int .i64 (nn) | _ => True) (by kernel_rfl) (by kernel_rfl) (fun n y w1 w2 h hx => h) ?_ ?_
          · refine ⟨?f0_27, ?f1_27, ?f2_27, ?f3_27, ?f4_27, ?f5_27, ?f6_27, ?f7_27, ?f8_27, ?f9_27, trivial⟩
            case f0_27 =>
              intro g w' hx hd
              refine op_run rfl ?_
              generalize hA : mkAct _ _ g = A
              have h3 : A.tmps[3]?.getD undef = .pointer (some ⟨E, 0, none⟩) := by rw [← hA]; exact mkAct_out2 _ _ _ _ _ rfl rfl
              refine step_val (v := .pointer (some ⟨E, 3, none⟩)) (w' := w') ?_ ⟨_, rfl, Ext.refl _ _, rfl⟩
              simp [execOp, h3, Result.andThen, go_sem]
            case f1_27 =>
              intro g w' hx hd
              refine op_run rfl ?_
              have e146 : g 146 = .pointer (some ⟨E, 3, none⟩) := hd ⟨0, .data⟩ (by simp) rfl
              generalize hA : mkAct _ _ g = A
              have h146 : A.tmps[146]?.getD undef = .pointer (some ⟨E, 3, none⟩) := by rw [← hA, mkAct_in2 _ _ _ _ rfl rfl]; exact e146
              have c := cB w' hx
              refine step_val (v := .int .i64 B) (w' := w') ?_ ⟨_, rfl, Ext.refl _ _, rfl⟩
              simp [execOp, h146, c, Result.andThen, go_sem]
            case f2_27 =>
              intro g w' hx hd
              refine op_run rfl ?_
              have e147 : g 147 = .int .i64 B := hd ⟨1, .data⟩ (by simp) rfl
              generalize hA : mkAct _ _ g = A
              have h147 : A.tmps[147]?.getD undef = .int .i64 B := by rw [← hA, mkAct_in2 _ _ _ _ rfl rfl]; exact e147
              refine step_val (v := .int .i64 (B % 4)) (w' := w') ?_ ⟨_, rfl, Ext.refl _ _, rfl⟩
              simp [execOp, h147, Result.andThen, go_sem]
            case f3_27 =>
              intro g w' hx hd
              refine op_run rfl ?_
              generalize hA : mkAct _ _ g = A
              have h0 : A.tmps[0]?.getD undef = .pointer (some ⟨wq, 0, none⟩) := by rw [← hA]; exact mkAct_out2 _ _ _ _ _ rfl rfl
              refine step_val (v := .pointer (some ⟨wq, 0, none⟩)) (w' := w') ?_ ⟨_, rfl, Ext.refl _ _, rfl⟩
              simp [execOp, h0, Result.andThen, go_sem]
            case f4_27 =>
              intro g w' hx hd
              refine op_run rfl ?_
              have e149 : g 149 = .pointer (some ⟨wq, 0, none⟩) := hd ⟨3, .data⟩ (by simp) rfl
              generalize hA : mkAct _ _ g = A
              have h149 : A.tmps[149]?.getD undef = .pointer (some ⟨wq, 0, none⟩) := by rw [← hA, mkAct_in2 _ _ _ _ rfl rfl]; exact e149
              refine step_val (v := .pointer (some ⟨wq, 0, none⟩)) (w' := w') ?_ ⟨_, rfl, Ext.refl _ _, rfl⟩
              simp [execOp, h149, Result.andThen, go_sem]
            case f5_27 =>
              intro g w' hx hd
              refine op_run rfl ?_
              have e150 : g 150 = .pointer (some ⟨wq, 0, none⟩) := hd ⟨4, .data⟩ (by simp) rfl
              generalize hA : mkAct _ _ g = A
              have h150 : A.tmps[150]?.getD undef = .pointer (some ⟨wq, 0, none⟩) := by rw [← hA, mkAct_in2 _ _ _ _ rfl rfl]; exact e150
              refine step_val (v := .pointer (some ⟨wq, 3, none⟩)) (w' := w') ?_ ⟨_, rfl, Ext.refl _ _, rfl⟩
              simp [execOp, h150, Result.andThen, go_sem]
            case f6_27 =>
              intro g w' hx hd
              refine op_run rfl ?_
              have e151 : g 151 = .pointer (some ⟨wq, 3, none⟩) := hd ⟨5, .data⟩ (by simp) rfl
              generalize hA : mkAct _ _ g = A
              have h151 : A.tmps[151]?.getD undef = .pointer (some ⟨wq, 3, none⟩) := by rw [← hA, mkAct_in2 _ _ _ _ rfl rfl]; exact e151
              have c := c3 w' hx
              refine step_val (v := .slice a len cap) (w' := w') ?_ ⟨_, rfl, Ext.refl _ _, rfl⟩
              simp [execOp, h151, c, Result.andThen, go_sem]
            case f7_27 =>
              intro g w' hx hd
              refine op_run rfl ?_
              have e152 : g 152 = .slice a len cap := hd ⟨6, .data⟩ (by simp) rfl
              generalize hA : mkAct _ _ g = A
              have h152 : A.tmps[152]?.getD undef = .slice a len cap := by rw [← hA, mkAct_in2 _ _ _ _ rfl rfl]; exact e152
              refine step_val (v := .int .i64 (len)) (w' := w') ?_ ⟨_, rfl, Ext.refl _ _, rfl⟩
              simp [execOp, h152, Result.andThen, go_sem]
            case f8_27 =>
              intro g w' hx hd
              refine op_run rfl ?_
              have e148 : g 148 = .int .i64 (B % 4) := hd ⟨2, .data⟩ (by simp) rfl
              have e153 : g 153 = .int .i64 (len) := hd ⟨7, .data⟩ (by simp) rfl
              generalize hA : mkAct _ _ g = A
              have h148 : A.tmps[148]?.getD undef = .int .i64 (B % 4) := by rw [← hA, mkAct_in2 _ _ _ _ rfl rfl]; exact e148
              have h153 : A.tmps[153]?.getD undef = .int .i64 (len) := by rw [← hA, mkAct_in2 _ _ _ _ rfl rfl]; exact e153
              refine step_val (v := .int .i64 (nn)) (w' := w') ?_ ⟨_, rfl, Ext.refl _ _, rfl⟩
              simp [execOp, run_min2, hmin, h148, h153, Result.andThen, go_sem]
            case f9_27 =>
              intro g w' hx hd
              refine op_run rfl ?_
              have e154 : g 154 = .int .i64 (nn) := hd ⟨8, .data⟩ (by simp) rfl
              generalize hA : mkAct _ _ g = A
              have h154 : A.tmps[154]?.getD undef = .int .i64 (nn) := by rw [← hA, mkAct_in2 _ _ _ _ rfl rfl]; exact e154
              refine step_val (v := .int .i64 (nn)) (w' := w') ?_ ⟨_, rfl, Ext.refl _ _, rfl⟩
              simp [execOp, h154, Result.andThen, go_sem]
          intro g wn hxn hd
          have e11 : g 11 = .int .i64 (nn) := hd 9 (by decide)
          clear hd c3 c3' cB hmin
          unfold mkAct; simp only [List.zipIdx_cons, List.zipIdx_nil, List.map_cons, List.map_nil, Nat.zero_add, Nat.reduceAdd, List.contains_cons, List.contains_nil, Nat.reduceBEq, Bool.or_false, Bool.or_true, ↓reduceIte, Bool.false_eq_true]
          rw [e11]
          clear e11
          obtain ⟨w28, hw28⟩ : ∃ W, W = wn := ⟨_, rfl⟩
          rw [← hw28] at hxn ⊢
          clear hw28
          obtain ⟨O1, hO1⟩ : ∃ x, x = vblocks (.slice a len cap) ++ (E :: O) := ⟨_, rfl⟩
          have hS28 := (HR.out.1.keep hxn)
          have hR28 := HR.out.2.keep hxn (by simp)
          rw [← HLen.out] at hS28 hR28
          rw [← hO1] at hS28
          have hb28 := hS28.blk
          have c1 := fun w' (hx : Ext [] w28 w') => Blk.c (Blk.keep hb28 hx List.not_mem_nil) 1
          have c2 := fun w' (hx : Ext [] w28 w') => Blk.c (Blk.keep hb28 hx List.not_mem_nil) 2
          simp only [List.getElem?_cons_zero, List.getElem?_cons_succ] at c1 c2
          have cD : ∀ w', Ext [] w28 w' → Calls Try.prog 27 #[.pointer (some ⟨q, 0, none⟩), .int .i64 (first + (nn : Int))] w' fun e w2 => e = .returned (.int .i64 0) ∧ DropMidN w0 w28 w2 wq b q first nn (.slice a len cap) vm all O1 := by
            intro w' hx
            have h1 := (hS28.keep hx).dropc nn (by have := HLen.out; omega) (by omega)
            refine h1.mono ?_
            rintro e w2 ⟨he, hk, hb, hf⟩
            exact ⟨he, (Kept.of hx).trans hk, hb, hf⟩
          have HR28 := Hid.of hR28
          have HB28 := Hid.of (Blk.keep HEB.out hxn List.not_mem_nil)
          have HO1 := Hid.of hO1
          have HCD := Hid.of cD
          clear hb28 hS28 hR28 hO1 cD hxn HR HEB
          go_upto_region 28 with fail
          have cD := HCD.out
          refine wp_region_stepsm [155, 156, 157, 158, 159, 160, 161, 162, 163, 164, 165, 166] 10 (do28Φ wq q first nn) (do28ΦT wq q first nn) (fun v w => v = .int .i64 0 ∧ DropMidN w0 w28 w wq b q first nn (.slice a len cap) vm all O1) (fun v n y => match n with | 11 => y = .bool false | _ => True) (by kernel_rfl) (by kernel_rfl) (fun n y w w' h hx => h) (fun n y w' hn h => by unfold do28Φ at h; unfold do28ΦT; split at h <;> first | exact h | trivial) ?hst_28 ?hend_28
          case hst_28 =>
            refine ⟨?f0_28, ?f1_28, ?f2_28, ?f3_28, ?f4_28, ?f5_28, ?f6_28, ?f7_28, ?f8_28, ?f9_28, ?f10_28, ?f11_28, trivial⟩
            case f0_28 =>
              refine (if_pos (by decide)).mpr ?_
              intro g w' hx hd hb
              refine op_run rfl ?_
              generalize hA : mkAct _ _ g = A
              have h0 : A.tmps[0]?.getD undef = .pointer (some ⟨wq, 0, none⟩) := by rw [← hA]; exact mkAct_out2 _ _ _ _ _ rfl rfl
              refine step_val (v := .pointer (some ⟨wq, 0, none⟩)) (w' := w') ?_ ⟨_, rfl, Ext.refl _ _, rfl⟩
              simp [execOp, h0, Result.andThen, go_sem]
            case f1_28 =>
              refine (if_pos (by decide)).mpr ?_
              intro g w' hx hd hb
              refine op_run rfl ?_
              have e155 : g 155 = .pointer (some ⟨wq, 0, none⟩) := hd ⟨0, .data⟩ (by simp) rfl
              generalize hA : mkAct _ _ g = A
              have h155 : A.tmps[155]?.getD undef = .pointer (some ⟨wq, 0, none⟩) := by rw [← hA, mkAct_in2 _ _ _ _ rfl rfl]; exact e155
              refine step_val (v := .pointer (some ⟨wq, 0, none⟩)) (w' := w') ?_ ⟨_, rfl, Ext.refl _ _, rfl⟩
              simp [execOp, h155, Result.andThen, go_sem]
            case f2_28 =>
              refine (if_pos (by decide)).mpr ?_
              intro g w' hx hd hb
              refine op_run rfl ?_
              have e156 : g 156 = .pointer (some ⟨wq, 0, none⟩) := hd ⟨1, .data⟩ (by simp) rfl
              generalize hA : mkAct _ _ g = A
              have h156 : A.tmps[156]?.getD undef = .pointer (some ⟨wq, 0, none⟩) := by rw [← hA, mkAct_in2 _ _ _ _ rfl rfl]; exact e156
              refine step_val (v := .pointer (some ⟨wq, 1, none⟩)) (w' := w') ?_ ⟨_, rfl, Ext.refl _ _, rfl⟩
              simp [execOp, h156, Result.andThen, go_sem]
            case f3_28 =>
              refine (if_pos (by decide)).mpr ?_
              intro g w' hx hd hb
              refine op_run rfl ?_
              have e157 : g 157 = .pointer (some ⟨wq, 1, none⟩) := hd ⟨2, .data⟩ (by simp) rfl
              generalize hA : mkAct _ _ g = A
              have h157 : A.tmps[157]?.getD undef = .pointer (some ⟨wq, 1, none⟩) := by rw [← hA, mkAct_in2 _ _ _ _ rfl rfl]; exact e157
              have c := c1 w' hx
              refine step_val (v := .pointer (some ⟨q, 0, none⟩)) (w' := w') ?_ ⟨_, rfl, Ext.refl _ _, rfl⟩
              simp [execOp, h157, c, Result.andThen, go_sem]
            case f4_28 =>
              refine (if_pos (by decide)).mpr ?_
              intro g w' hx hd hb
              refine op_run rfl ?_
              generalize hA : mkAct _ _ g = A
              have h0 : A.tmps[0]?.getD undef = .pointer (some ⟨wq, 0, none⟩) := by rw [← hA]; exact mkAct_out2 _ _ _ _ _ rfl rfl
              refine step_val (v := .pointer (some ⟨wq, 0, none⟩)) (w' := w') ?_ ⟨_, rfl, Ext.refl _ _, rfl⟩
              simp [execOp, h0, Result.andThen, go_sem]
            case f5_28 =>
              refine (if_pos (by decide)).mpr ?_
              intro g w' hx hd hb
              refine op_run rfl ?_
              have e159 : g 159 = .pointer (some ⟨wq, 0, none⟩) := hd ⟨4, .data⟩ (by simp) rfl
              generalize hA : mkAct _ _ g = A
              have h159 : A.tmps[159]?.getD undef = .pointer (some ⟨wq, 0, none⟩) := by rw [← hA, mkAct_in2 _ _ _ _ rfl rfl]; exact e159
              refine step_val (v := .pointer (some ⟨wq, 0, none⟩)) (w' := w') ?_ ⟨_, rfl, Ext.refl _ _, rfl⟩
              simp [execOp, h159, Result.andThen, go_sem]
            case f6_28 =>
              refine (if_pos (by decide)).mpr ?_
              intro g w' hx hd hb
              refine op_run rfl ?_
              have e160 : g 160 = .pointer (some ⟨wq, 0, none⟩) := hd ⟨5, .data⟩ (by simp) rfl
              generalize hA : mkAct _ _ g = A
              have h160 : A.tmps[160]?.getD undef = .pointer (some ⟨wq, 0, none⟩) := by rw [← hA, mkAct_in2 _ _ _ _ rfl rfl]; exact e160
              refine step_val (v := .pointer (some ⟨wq, 2, none⟩)) (w' := w') ?_ ⟨_, rfl, Ext.refl _ _, rfl⟩
              simp [execOp, h160, Result.andThen, go_sem]
            case f7_28 =>
              refine (if_pos (by decide)).mpr ?_
              intro g w' hx hd hb
              refine op_run rfl ?_
              have e161 : g 161 = .pointer (some ⟨wq, 2, none⟩) := hd ⟨6, .data⟩ (by simp) rfl
              generalize hA : mkAct _ _ g = A
              have h161 : A.tmps[161]?.getD undef = .pointer (some ⟨wq, 2, none⟩) := by rw [← hA, mkAct_in2 _ _ _ _ rfl rfl]; exact e161
              have c := c2 w' hx
              refine step_val (v := .int .i64 first) (w' := w') ?_ ⟨_, rfl, Ext.refl _ _, rfl⟩
              simp [execOp, h161, c, Result.andThen, go_sem]
            case f8_28 =>
              refine (if_pos (by decide)).mpr ?_
              intro g w' hx hd hb
              refine op_run rfl ?_
              generalize hA : mkAct _ _ g = A
              have h11 : A.tmps[11]?.getD undef = .int .i64 (nn) := by rw [← hA]; exact mkAct_out2 _ _ _ _ _ rfl rfl
              refine step_val (v := .int .i64 (nn)) (w' := w') ?_ ⟨_, rfl, Ext.refl _ _, rfl⟩
              simp [execOp, h11, Result.andThen, go_sem]
            case f9_28 =>
              refine (if_pos (by decide)).mpr ?_
              intro g w' hx hd hb
              refine op_run rfl ?_
              have e162 : g 162 = .int .i64 first := hd ⟨7, .data⟩ (by simp) rfl
              have e163 : g 163 = .int .i64 (nn) := hd ⟨8, .data⟩ (by simp) rfl
              generalize hA : mkAct _ _ g = A
              have h162 : A.tmps[162]?.getD undef = .int .i64 first := by rw [← hA, mkAct_in2 _ _ _ _ rfl rfl]; exact e162
              have h163 : A.tmps[163]?.getD undef = .int .i64 (nn) := by rw [← hA, mkAct_in2 _ _ _ _ rfl rfl]; exact e163
              refine step_val (v := .int .i64 (first + (nn : Int))) (w' := w') ?_ ⟨_, rfl, Ext.refl _ _, rfl⟩
              simp [execOp, h162, h163, Result.andThen, go_sem]
              exact IntWalk.i64_in _ ⟨by omega, by omega⟩
            case f10_28 =>
              refine (if_neg (by decide)).mpr ((if_pos rfl).mpr ?_)
              intro g w' hx hd hb
              refine op_run rfl ?_
              have e158 : g 158 = .pointer (some ⟨q, 0, none⟩) := hd 3 (by decide)
              have e164 : g 164 = .int .i64 (first + (nn : Int)) := hd 9 (by decide)
              generalize hA : mkAct _ _ g = A
              have h158 : A.tmps[158]?.getD undef = .pointer (some ⟨q, 0, none⟩) := by rw [← hA, mkAct_in2 _ _ _ _ rfl rfl]; exact e158
              have h164 : A.tmps[164]?.getD undef = .int .i64 (first + (nn : Int)) := by rw [← hA, mkAct_in2 _ _ _ _ rfl rfl]; exact e164
              refine mid_k (fun K hK => ?_)
              go_simp
              refine (cD w' hx).mono ?_
              rintro e w2 ⟨rfl, hD2⟩
              exact hK (.int .i64 0) w2 ⟨rfl, hD2⟩
            case f11_28 =>
              refine (if_neg (by decide)).mpr ((if_neg (by decide)).mpr ?_)
              intro g v w' hM hT hv hd
              refine op_run rfl ?_
              obtain ⟨rfl, -⟩ := hM
              have e165 := hv (Option.some_ne_none _)
              replace e165 : g 165 = _ := e165
              generalize hA : mkAct _ _ g = A
              have h165 : A.tmps[165]?.getD undef = g 165 := by rw [← hA]; exact mkAct_in2 _ _ _ _ rfl rfl
              rw [e165] at h165
              refine step_val (w' := w') ?_ ⟨_, rfl, rfl, rfl⟩
              simp [execOp, h165, tupAt, Result.andThen, go_sem]
          intro g v wn hM hT hv hd
          obtain ⟨rfl, hD⟩ := hM
          have e166 : g 166 = .bool false := hd 11 (by decide) (by decide)
          clear hd hv hT cD c1 c2 HCD
          unfold mkAct; simp only [List.zipIdx_cons, List.zipIdx_nil, List.map_cons, List.map_nil, Nat.zero_add, Nat.reduceAdd, List.contains_cons, List.contains_nil, Nat.reduceBEq, Bool.or_false, Bool.or_true, ↓reduceIte, Bool.false_eq_true]
          rw [e166]
          clear e166
          have d2 : wn.cell? ⟨wq, 2, none⟩ = some (.int .i64 first) := Blk.c hD.2.1 2
          have d3 : wn.cell? ⟨wq, 3, none⟩ = some (.slice a len cap) := Blk.c hD.2.1 3
          have d4 : wn.cell? ⟨wq, 4, none⟩ = some vm := Blk.c hD.2.1 4
          have g2 := Blk.f hD.2.1 2
          have g3 := Blk.f hD.2.1 3
          have g4 := Blk.f hD.2.1 4
          have hRn := hD.1.rd HR28.out (fun z hz => by rw [HO1.out]; simp [hz])
          have hcap : len ≤ cap := hRn.len.2.1
          have HD := Hid.of hD
          have HRn := Hid.of hRn
          clear hD hRn
          obtain ⟨bv, hbv⟩ : ∃ x, x = behindV a len nn cap := ⟨_, rfl⟩
          have hbs : ∃ ba bn bc, bv = .slice ba bn bc := ⟨_, _, _, hbv⟩
          obtain ⟨ba, bn, bc, hbs⟩ := hbs
          have HBv : Hid (behindV a len nn cap = .slice ba bn bc) := Hid.of (by rw [← hbv, hbs])
          clear hbv hbs
          go_upto_region 31 with fail
          obtain ⟨wb, hwb⟩ : ∃ W, W = wn.setCell ⟨wq, 2, none⟩ (.int .i64 (first + (nn : Int))) := ⟨_, rfl⟩
          have hbb : Blk wb wq 35 [.pointer (some ⟨b, 0, none⟩), .pointer (some ⟨q, 0, none⟩), .int .i64 (first + (nn : Int)), .slice a len cap, vm] := by rw [hwb]; exact Blk.set HD.out.2.1 2 _
          have hxb : Ext [wq] wn wb := by rw [hwb]; exact (Ext.refl [wq] wn).setCell (.inl (by simp)) _
          rw [← hwb]
          clear hwb d2 d3 d4 g2 g3 g4
          have d3 : wb.cell? ⟨wq, 3, none⟩ = some (.slice a len cap) := Blk.c hbb 3
          have d4 : wb.cell? ⟨wq, 4, none⟩ = some vm := Blk.c hbb 4
          have g3 := Blk.f hbb 3
          have g4 := Blk.f hbb 4
          have HBb := Hid.of hbb
          have HXb := Hid.of hxb
          clear hbb hxb
          go_wp2_with (first
            | (refine wpl_sliceV a len nn cap (.slice ba bn bc) HBv.out ?_ ?_ hnl hcap ?_))
          · rfl
          · rfl
          go_meet
          have hb5 := Blk.set (Blk.set HBb.out 3 (.slice ba bn bc)) 4 (.slice none 0 0)
          have hx5 : Ext [wq] wn ((wb.setCell ⟨wq, 3, none⟩ (.slice ba bn bc)).setCell ⟨wq, 4, none⟩ (.slice none 0 0)) := (HXb.out.setCell (.inl (by simp)) _).setCell (.inl (by simp)) _
          have h5 := HD.out.2.2 _ _ _ hx5 hb5
          have hK5 := HD.out.1
          rw [HO1.out] at h5 hK5
          rw [← HBv.out] at h5 ⊢
          exact ⟨b, q, first + (nn : Int), _, all.drop nn, _, _, RSt.ofBehind h5.1 (h5.2.rd HRn.out (fun z hz => by simp [hz])) HLen.out hnl, h5.2.blk (hK5.blk HB28.out (by simp)) (by simp), fun e he => HA.out e (List.mem_of_mem_drop he), by omega, by omega⟩
        · have hk66 : k7 = 6 := by omega
          subst hk66
          have d4 : W.cell? ⟨wq, 4, none⟩ = some vm := Blk.c HR.out.1.blk 4
          have g4 := Blk.f HR.out.1.blk 4
          have HFin := Hid.of (HR.out.setMay (.slice none 0 0))
          clear h4 h44 h55 hbW2 hEW c3' cB
          go_wp2
          go_meet
          exact ⟨b, q, first, _, all, a, cap, HFin.out.1, HFin.out.2.blk HEB.out (by simp), HA.out, f1, by omega⟩
  case rest => as_aux_lemma =>
    obtain ⟨b', q', first', vm', all', a', cap', hS, hB, hA', g1, g2⟩ := Hid.out hcut
    clear cF cK c3 HR HEB
    have cK : wc.cell? ⟨E, 0, none⟩ = some (.int .i64 K) := Blk.c hB 0
    have cF : wc.cell? ⟨E, 4, none⟩ = some (.int .i64 0) := Blk.c hB 4
    have c6 : wc.cell? ⟨E, 6, none⟩ = some (.slice fa fl fc) := Blk.c hB 6
    have c0 : wc.cell? ⟨wq, 0, none⟩ = some (.pointer (some ⟨b', 0, none⟩)) := Blk.c hS.1.blk 0
    have HB := Hid.of hB
    have HS := Hid.of hS
    have HA' := Hid.of hA'
    by_cases hk : k7 = 6
    · have cA := again_c hS fa fl fc fs (HF.out.keep hS.1.ext (by simp))
      clear hB hS hA' cF c0 hcut
      subst hk
      go_wp2_with (first
        | (go_at_call 25; (with_reducible refine cA.mono ?_); rintro e w29 ⟨rfl, b2, q2, hS29, hk29⟩; have HS29 := Hid.of hS29; clear cA hS29 hk29))
      go_ret
      exact ⟨rfl, b2, q2, first', _, all', a', cap', HS29.out.sub (fun z hz => by simp [hz]), HA'.out, g1, g2⟩
    · have hkb : (k7 == 6) = false := by simp [hk]
      have cD := hS.1.down_c
      have cS := fun w' (hx : Ext [] wc w') => (hS.keep hx).shows
      have HF4 := Hid.of (fun w' (hx : Ext [] wc w') => Blk.c (Blk.keep hB hx List.not_mem_nil) 4)
      clear hB hS hA' c6 cF hcut hk
      go_wp2_with (first
        | (go_at_call 36; (with_reducible refine cD.mono ?_); rintro e w30 ⟨rfl, hx30⟩; have HX30 := Hid.of hx30; have cF : w30.cell? ⟨E, 4, none⟩ = some (.int .i64 0) := HF4.out w30 hx30; have cS30 := cS w30 hx30; clear hx30 cD cS)
        | (go_at_call 23; (with_reducible refine cS30.mono ?_); rintro e w31 ⟨rfl, hx31⟩; have HX31 := Hid.of (HX30.out.then0 hx31); clear hx31 cS30))
      go_ret
      exact ⟨rfl, b', q', first', _, all', a', cap', (HS.out.keep HX31.out).sub (fun z hz => by simp [hz]), HA'.out, g1, g2⟩
end Go.Proofs.Ytmjgbkepngeckaa
