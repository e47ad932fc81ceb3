/- SumParts: the walk. -/
import Derived.Test.YtoeccimbechfeaaSum
import Derived.Test.YtoeccimbechfeaaSumLaw
import Derived.Test.YtoeccimbechfeaaBits
namespace Go.Proofs.Ytoeccimbechfeaa
open Go.RowKit
set_option linter.unusedVariables false
attribute [local go_sem] i64_and65535

theorem el_strs : Elem Try.prog 32 9 (.string ⟨#[]⟩) 1 16 := Elem.mk' Try.underlying32 rfl (by kernel_rfl)
theorem scells_one (l : List (List UInt8)) : ∀ u ∈ l.map str, u.oneCell' = true := by
  intro u hu; simp only [List.mem_map] at hu; obtain ⟨_, _, rfl⟩ := hu; rfl
theorem mem_flatten_le (ts : List (List UInt8)) (t : List UInt8) (h : t ∈ ts) : t.length ≤ ts.flatten.length := by
  induction ts with
  | nil => cases h
  | cons a l ih =>
    rw [List.flatten_cons, List.length_append]
    rcases List.mem_cons.1 h with rfl | h
    · omega
    · have := ih h; omega
theorem take_extract (l : List UInt8) (k : Nat) (h : k ≤ l.length) : ByteArray.extract ⟨l.toArray⟩ 0 k = ⟨(l.take k).toArray⟩ := by
  rw [ByteArray.extract_mk, List.drop_zero, Nat.sub_zero]

set_option maxHeartbeats 1600000 in
theorem sumParts_long (l : List UInt8) (a : Option Addr) (len cap : Nat) (w0 : World) (h : 300 < l.length ∨ 10 < len) :
    Calls Try.prog 5 #[str l, .slice a len cap] w0 fun e w' => e = .returned (.bool true) ∧ Ext [] w0 w' := by
  by_cases h3 : 300 < l.length
  · go_enter Try.func5, Try.ntmps5
    go_wp2_with fail
    refine (head2_any w0).mono ?_
    rintro e w1 ⟨rfl, hx⟩
    go_wp2
    go_ret
    exact ⟨rfl, hx⟩
  · have h10 : 10 < len := by omega
    clear h
    go_enter Try.func5, Try.ntmps5
    go_wp2_with fail
    refine (head2_any w0).mono ?_
    rintro e w1 ⟨rfl, hx⟩
    go_wp2
    go_ret
    exact ⟨rfl, hx⟩

set_option maxHeartbeats 1600000 in
theorem sumParts_any {w0 : World} (l : List UInt8) (_ : l.length ≤ maxLen) (a : Option Addr) (len cap : Nat) (ns : List Int) (hR : Rd w0 1 (.slice a len cap) len (ns.map (Value.int .i64))) (hwf : ∀ n ∈ ns, (Lit.int .i64 n).wf = true) :
    Calls Try.prog 5 #[str l, .slice a len cap] w0 fun e w' => e = .returned (.bool true) ∧ Ext [] w0 w' := by
  by_cases hlong : 300 < l.length ∨ 10 < len
  · exact sumParts_long l a len cap w0 hlong
  have hl3 : l.length ≤ 300 := by omega
  have hl10 : len ≤ 10 := by omega
  clear hlong
  have hl : ns.length = len := by have := hR.len.2.2.2; simpa using this
  go_enter Try.func5, Try.ntmps5
  go_wp2_with fail
  refine (head2_any w0).mono ?_
  rintro e w1 ⟨rfl, hx⟩
  go_wp2_with fail
  refine (of_any _ _ _ [] _ (by omega) (by simp) (Rd.nil _ _)).mono ?_
  rintro e w2 ⟨rfl, hx2⟩
  have hx3 : Ext [] w0 w2 := (hx.alloc _).then0 hx2
  have ho : Own w2 9 1 (.slice (some ⟨w1.heap.size, 0, none⟩) 0 0) ([] : List (List UInt8)).length (([] : List (List UInt8)).map str) :=
    (Own.lit w1 #[] 9 1 0 rfl (by omega)).keep hx2 (by simp)
  have hb1 : w0.heap.size ≤ w1.heap.size := hx.size
  clear hx hx2
  go_wp2
  go_loopw [5, 6, 7, 26] (fun p r x i wr => ∃ (k : Nat) (ts : List (List UInt8)) (q : List UInt8), k ≤ len ∧ i = .int .i64 k ∧ r = str q ∧ ts.flatten ++ q = l ∧ ts.length = k ∧ x = .int .u32 (u32v (sumAdd 0#32 ts.flatten)) ∧ Own wr 9 1 p ts.length (ts.map str) ∧ Ext [] w0 wr ∧ (∀ k ∈ vblocks p, k ∈ ([] : List Nat) ∨ w0.heap.size ≤ k)) (fun _ _ _ i _ => len - (intOf i).toNat)
  case atStart => exact ⟨0, [], l, by omega, rfl, rfl, rfl, rfl, rfl, ho, hx3, by intro k hk; simp [vblocks] at hk; subst hk; exact .inr hb1⟩
  case round =>
    clear ho hx3
    obtain ⟨k, ts, q, hk, rfl, rfl, hq, htk, rfl, hor, hxr, hvr⟩ := hrel
    have hql : q.length ≤ 300 := by rw [← hq] at hl3; rw [List.length_append] at hl3; omega
    have HQ : Hid (ts.flatten ++ q = l) := hq
    have HT : Hid (ts.length = k) := htk
    clear hq htk
    obtain ⟨x, hxx⟩ : ∃ x, x = sumAdd 0#32 ts.flatten := ⟨_, rfl⟩
    rw [← hxx]
    have HX : Hid (x = sumAdd 0#32 ts.flatten) := hxx
    clear hxx
    by_cases hlt : k < len
    · obtain ⟨b, off, rfl, hbw, hc⟩ := hR.view (by omega)
      have h1 := hxr.cell (p := ⟨b, off + k, none⟩) (by simp) (hc k (.int .i64 (ns.getD k 0)) (by simp [List.getD, show k < ns.length by omega]))
      obtain ⟨z, hz⟩ : ∃ z, z = ns.getD k 0 := ⟨_, rfl⟩
      rw [← hz] at h1
      have b0 : 0 ≤ z % 65536 := by omega
      have b1 := emod_lo (z % 65536) q.length
      have b2 := emod_hi (z % 65536) q.length
      obtain ⟨m, hm⟩ : ∃ m, m = (z % 65536 % ((q.length : Int) + 1)).toNat := ⟨_, rfl⟩
      have hmq : m ≤ q.length := by omega
      have hex := take_extract q m hmq
      have hey := drop_extract q m hmq
      rw [hm] at hex hey
      rw [← hm] at hex hey
      have htl : ts.length ≤ 10 := by rw [HT.out]; omega
      have hex' : ByteArray.extract ⟨q.toArray⟩ 0 (z % 65536 % ((q.length : Int) + 1)).toNat = ⟨(q.take m).toArray⟩ := by rw [← hm]; exact hex
      have hey' : ByteArray.extract ⟨q.toArray⟩ (z % 65536 % ((q.length : Int) + 1)).toNat q.length = ⟨(q.drop m).toArray⟩ := by rw [← hm]; exact hey
      clear hz hc hR hl hwf hex hey hm
      go_wp2_with (first | ((with_reducible refine wpl_append (d := some 41) 9 (.string ⟨#[]⟩) 1 16 el_strs _ _ _ ?_ (hor.alloc _) (.slice (some ⟨wr.heap.size, 0, none⟩) 1 1) 1 ([q.take m].map str) ?_ ?_ (scells_one _) ?_ ?_ ?_)))
      · rfl
      · rfl
      · exact Rd.strs1 _
      · omega
      · unfold maxLen; omega
      intro v' w' ho' hx' hv' _
      have hs := hxr.size
      have hx2 : Ext [] w0 w' := (hxr.alloc _).trans hx' hvr
      have hv2 := vb_step hvr hv' (by simp; omega)
      clear hx' hv' hxr hvr hor h1
      go_wp2_with fail
      refine (add_any x _ _ _ [q.take m] _ (by omega) (by unfold maxLen; simp; omega) (Rd.strs1 _)).mono ?_
      rintro e w3 ⟨rfl, hx3⟩
      have hx4 : Ext [] w0 w3 := (hx2.alloc _).then0 hx3
      have ho2 : Own w3 9 1 v' (ts ++ [q.take m]).length ((ts ++ [q.take m]).map str) := by
        rw [List.map_append, List.length_append]
        exact (ho'.alloc _).keep hx3 (by simp)
      rw [List.flatten_singleton]
      have HY : Hid (sumAdd 0#32 (ts ++ [q.take m]).flatten = sumAdd x (q.take m)) := by
        show _ = _
        rw [HX.out, List.flatten_append, List.flatten_singleton, sumAdd_append]
      clear hx3 hx2 ho'
      go_wp2
      go_roundw
      case rel => exact ⟨k + 1, ts ++ [q.take m], q.drop m, by omega, by go_num, rfl, by rw [List.flatten_append, List.flatten_singleton, List.append_assoc, List.take_append_drop]; exact HQ.out, by rw [List.length_append, HT.out]; rfl, by rw [HY.out], ho2, hx4, hv2⟩
      case measure => simp [intOf]; omega
    · have htl : ts.length ≤ 10 := by rw [HT.out]; omega
      have hts : ∀ t ∈ ts ++ [q], t.length ≤ maxLen := by
        intro t ht
        have h2 : t.length ≤ l.length := by
          rw [← HQ.out]
          rcases List.mem_append.1 ht with h | h
          · rw [List.length_append]
            have := mem_flatten_le ts t h
            omega
          · simp at h; subst h; rw [List.length_append]; omega
        unfold maxLen; omega
      go_wp2_with (first | ((with_reducible refine wpl_append (d := some 55) 9 (.string ⟨#[]⟩) 1 16 el_strs _ _ _ ?_ (hor.alloc _) (.slice (some ⟨wr.heap.size, 0, none⟩) 1 1) 1 ([q].map str) ?_ ?_ (scells_one _) ?_ ?_ ?_)))
      · rfl
      · rfl
      · exact Rd.strs1 _
      · omega
      · unfold maxLen; omega
      intro v' w' ho' hx' hv' _
      have hx2 : Ext [] w0 w' := (hxr.alloc _).trans hx' hvr
      clear hx' hv' hxr hvr hor
      obtain ⟨av, cv, rfl⟩ := ho'.rd.isSlice
      have hrd : Rd w' 1 (.slice av (ts.length + 1) cv) (ts.length + 1) ((ts ++ [q]).map str) := by rw [List.map_append]; exact ho'.rd
      clear ho'
      go_wp2_with fail
      refine (of_any av (ts.length + 1) cv (ts ++ [q]) w' (by omega) hts hrd).mono ?_
      rintro e w3 ⟨rfl, hx3⟩
      have hx4 : Ext [] w0 w3 := hx2.then0 hx3
      have e1 : (ts ++ [q]).flatten = l := by rw [List.flatten_append, List.flatten_singleton]; exact HQ.out
      rw [e1]
      clear hx3 hx2 e1 hrd hts
      go_wp2_with fail
      refine (of_any _ _ _ [l] _ (by omega) (by unfold maxLen; simp; omega) (Rd.strs1 _)).mono ?_
      rintro e w4 ⟨rfl, hx5⟩
      have hx6 : Ext [] w0 w4 := (hx4.alloc _).then0 hx5
      rw [List.flatten_singleton]
      clear hx4 hx5
      go_wp2_with fail
      refine (add_any x _ _ _ [q] _ (by omega) (by unfold maxLen; simp; omega) (Rd.strs1 _)).mono ?_
      rintro e w5 ⟨rfl, hx7⟩
      have hx8 : Ext [] w0 w5 := (hx6.alloc _).then0 hx7
      have e2 : sumAdd x q = sumOf l := by rw [HX.out, ← sumAdd_append, HQ.out]; rfl
      rw [List.flatten_singleton, e2]
      clear hx6 hx7 e2
      go_wp2_with fail
      refine (of_any _ _ _ [l] _ (by omega) (by unfold maxLen; simp; omega) (Rd.strs1 _)).mono ?_
      rintro e w6 ⟨rfl, hx9⟩
      have hx10 : Ext [] w0 w6 := (hx8.alloc _).then0 hx9
      rw [List.flatten_singleton]
      clear hx8 hx9
      go_wp2
      go_ret
      exact ⟨rfl, hx10⟩
end Go.Proofs.Ytoeccimbechfeaa
