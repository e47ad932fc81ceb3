/- DevFlushes: the walk. -/
import Derived.Test.YtpnfgkgloioddaaDevN
namespace Go.Proofs.Ytpnfgkgloioddaa
open Go.RowKit
set_option linter.unusedVariables false

/-- Texts written one behind the other, from a block on. -/
def ixs (off : Int) (ts : List (List UInt8)) : List (Int × List UInt8) := (List.range ts.length).map fun (j : Nat) => (off + (j : Int), ts.getD j [])
theorem ixs_snoc (off : Int) (ts : List (List UInt8)) (s : List UInt8) : ixs off (ts ++ [s]) = ixs off ts ++ [(off + (ts.length : Int), s)] := by
  unfold ixs
  rw [List.length_append, List.length_singleton, List.range_succ, List.map_append, List.map_singleton]
  congr 1
  · apply List.map_congr_left
    intro j hj
    rw [List.mem_range] at hj
    simp [List.getD, List.getElem?_append_left hj]
  · simp [List.getD]
theorem ixs_length (off : Int) (ts : List (List UInt8)) : (ixs off ts).length = ts.length := by simp [ixs]
theorem ixs_key (off : Int) (ts : List (List UInt8)) : ∀ c ∈ ixs off ts, off ≤ c.1 ∧ c.1 < off + ts.length := by
  intro c hc
  simp only [ixs, List.mem_map, List.mem_range] at hc
  obtain ⟨j, hj, rfl⟩ := hc
  simp only
  omega
theorem puts_other (l : List (Int × List UInt8)) (k : Int) : ∀ D : Dv, (∀ c ∈ l, c.1 ≠ k) → (putsD l D).safe k = D.safe k := by
  induction l with
  | nil => intro D _; rfl
  | cons c l ih =>
    intro D h
    show (putsD l (putD c.1 c.2 D)).safe k = _
    rw [ih _ (fun x hx => h x (by simp [hx]))]
    exact setF_other _ _ _ _ (fun e => h c (by simp) e.symm)
theorem puts_ixs (off : Int) (ts : List (List UInt8)) (D : Dv) (i : Nat) (hi : i < ts.length) : ∀ n, i < n → n ≤ ts.length → (putsD (ixs off (ts.take n)) D).safe (off + i) = ts[i]
  | 0, h, _ => by omega
  | n + 1, h, hn => by
    rw [List.take_succ_eq_append_getElem (by omega), ixs_snoc, putsD_append, List.length_take, Nat.min_eq_left (by omega)]
    by_cases he : i = n
    · subst he
      exact setF_same _ _ _
    · show setF (putsD (ixs off (ts.take n)) D).safe (off + (n : Int)) ts[n] (off + (i : Int)) = _
      rw [setF_other _ _ _ _ (by omega)]
      exact puts_ixs off ts D i hi n (by omega) (by omega)
theorem fates_other (fs : List Int) (k : Int) : ∀ (l : List (Int × List UInt8)) (i : Nat) (D : Dv), (∀ c ∈ l, c.1 ≠ k) → (fatesD fs i l D).safe k = D.safe k
  | [], _, _, _ => rfl
  | c :: l, i, D, h => by
    show (fatesD fs (i + 1) l (fateD (fs.getD i 0) c D)).safe k = _
    rw [fates_other fs k l (i + 1) _ (fun x hx => h x (by simp [hx])), fateD]
    have hk : k ≠ c.1 := fun e => h c (by simp) e.symm
    split
    · exact setF_other _ _ _ _ hk
    · split
      · exact setF_other _ _ _ _ hk
      · rfl
def fateV (f : Int) (s old : List UInt8) : List UInt8 := if f = 1 then s else if f = 2 then s.take (s.length / 2) else old
theorem fateD_safe (f k : Int) (s : List UInt8) (D : Dv) : (fateD f (k, s) D).safe k = fateV f s (D.safe k) := by
  unfold fateD fateV
  split
  · exact setF_same _ _ _
  · split
    · exact setF_same _ _ _
    · rfl
theorem fates_ixs (fs : List Int) (off : Int) (ts : List (List UInt8)) (D : Dv) (i : Nat) (hi : i < ts.length) : ∀ n, i < n → n ≤ ts.length → (fatesD fs 0 (ixs off (ts.take n)) D).safe (off + i) = fateV (fs.getD i 0) ts[i] (D.safe (off + i))
  | 0, h, _ => by omega
  | n + 1, h, hn => by
    rw [List.take_succ_eq_append_getElem (by omega), ixs_snoc, fatesD_snoc, ixs_length, List.length_take, Nat.min_eq_left (by omega), Nat.zero_add]
    by_cases he : i = n
    · subst he
      rw [fateD_safe, fates_other]
      intro c hc
      have := ixs_key off (ts.take i) c hc
      rw [List.length_take, Nat.min_eq_left (by omega)] at this
      omega
    · have e : (fateD (fs.getD n 0) (off + (n : Int), ts[n]) (fatesD fs 0 (ixs off (ts.take n)) D)).safe (off + i) = (fatesD fs 0 (ixs off (ts.take n)) D).safe (off + i) :=
        fates_other [fs.getD n 0] (off + i) [(off + (n : Int), ts[n])] 0 _ (by simp; omega)
      rw [e]
      exact fates_ixs fs off ts D i hi n (by omega) (by omega)

def s1 (A : List (List UInt8)) : Dv := { newD 32 with since := ixs 0 A }
def s3 (A B : List (List UInt8)) : Dv := { flushD (s1 A) with since := ixs 16 B }
theorem s1_nil : newD 32 = s1 [] := rfl
theorem s1_write (A : List (List UInt8)) (s : List UInt8) (hA : A.length < 32) (hs : s.length ≤ 512) : writeE A.length s (s1 A) = 0 ∧ writeD A.length s (s1 A) = s1 (A ++ [s]) := by
  have ht : turnE (s1 A) = 0 := rfl
  have h1 : writeE A.length s (s1 A) = 0 := by rw [writeE, ht, if_neg (by decide), if_neg (by show ¬ ((A.length : Int) < 0 ∨ (32 : Int) ≤ A.length); omega), if_neg (by omega)]
  refine ⟨h1, ?_⟩
  rw [writeD, if_pos h1]
  show Dv.mk _ _ _ _ _ _ _ = Dv.mk _ _ _ _ _ _ _
  congr 1
  · show ixs 0 A ++ _ = _; rw [ixs_snoc, Int.zero_add]
  · funext x
    show setF _ _ false x = false
    unfold setF; simp [turnD, s1, newD]
theorem s1_flush (A : List (List UInt8)) : turnE (s1 A) = 0 ∧ flushD (s1 A) = s3 A [] := by
  refine ⟨rfl, ?_⟩
  have e : flushD (s1 A) = { putsD (s1 A).since (turnD (s1 A)) with since := [] } := by rw [flushD, if_neg (show ¬ turnE (s1 A) = 5 from fun h => by have h2 : turnE (s1 A) = 0 := rfl; omega)]
  unfold s3
  rw [e]; rfl
theorem s3_same (A B : List (List UInt8)) : (s3 A B).size = 32 ∧ (s3 A B).lost = (fun _ => false) ∧ (s3 A B).fall = -1 ∧ (s3 A B).down = false ∧ (s3 A B).safe = (putsD (ixs 0 A) (newD 32)).safe := by
  have e : flushD (s1 A) = { putsD (ixs 0 A) (s1 A) with since := [] } := by rw [flushD, if_neg (show ¬ turnE (s1 A) = 5 from fun h => by have h2 : turnE (s1 A) = 0 := rfl; omega)]; rfl
  obtain ⟨h1, h2, h3, h4, h5⟩ := putsD_size (ixs 0 A) (s1 A)
  unfold s3
  rw [e]
  refine ⟨h1, h3, h4, h5, ?_⟩
  show (putsD (ixs 0 A) (s1 A)).safe = _
  have : ∀ (l : List (Int × List UInt8)) (D D' : Dv), D.safe = D'.safe → (putsD l D).safe = (putsD l D').safe := by
    intro l
    induction l with
    | nil => intro D D' h; exact h
    | cons c l ih => intro D D' h; exact ih _ _ (by show setF D.safe _ _ = setF D'.safe _ _; rw [h])
  exact this _ _ _ rfl
theorem s3_write (A B : List (List UInt8)) (s : List UInt8) (hB : B.length < 16) (hs : s.length ≤ 512) : writeE (16 + (B.length : Int)) s (s3 A B) = 0 ∧ writeD (16 + (B.length : Int)) s (s3 A B) = s3 A (B ++ [s]) := by
  obtain ⟨g1, g2, g3, g4, g5⟩ := s3_same A B
  have ht : turnE (s3 A B) = 0 := by rw [turnE, g3, g4]; rfl
  have htd : turnD (s3 A B) = s3 A B := by rw [turnD, g3, g4]; rfl
  have h1 : writeE (16 + (B.length : Int)) s (s3 A B) = 0 := by rw [writeE, ht, if_neg (by decide), g1, if_neg (by omega), if_neg (by omega)]
  refine ⟨h1, ?_⟩
  rw [writeD, if_pos h1, htd]
  show Dv.mk _ _ _ _ _ _ _ = Dv.mk _ _ _ _ _ _ _
  congr 1
  · show ixs 16 B ++ _ = _; rw [ixs_snoc]
  · rw [g2]
    have g2' := (s3_same A (B ++ [s])).2.1
    funext x
    show setF _ _ false x = (s3 A (B ++ [s])).lost x
    rw [g2']
    unfold setF; simp
theorem s3_since (A B : List (List UInt8)) : (s3 A B).since.length = B.length := ixs_length 16 B
theorem crash_E (fs : List Int) (A B : List (List UInt8)) (k : Int) (h0 : 0 ≤ k) (h1 : k < 32) : readE k (crashD fs (s3 A B)) = 0 := by
  obtain ⟨c1, c2, c3, c4, c5⟩ := crashD_size fs (s3 A B)
  obtain ⟨g1, g2, g3, g4, g5⟩ := s3_same A B
  rw [readE, c5, if_neg (by decide), c1, g1, if_neg (by show ¬ (k < 0 ∨ min (max 32 0) 4096 ≤ k); omega), c3, g2]; rfl
theorem crash_V (fs : List Int) (A B : List (List UInt8)) (k : Int) (h0 : 0 ≤ k) (h1 : k < 32) : readV k (crashD fs (s3 A B)) = (fatesD fs 0 (ixs 16 B) (bareD (s3 A B))).safe k := by
  rw [readV, if_pos (crash_E fs A B k h0 h1), contD, (crashD_size fs (s3 A B)).2.1]; rfl
theorem crash_A (fs : List Int) (A B : List (List UInt8)) (i : Nat) (hi : i < A.length) (hA : A.length ≤ 16) : readV i (crashD fs (s3 A B)) = A[i] := by
  rw [crash_V fs A B i (by omega) (by omega), fates_other]
  · show (s3 A B).safe i = _
    rw [(s3_same A B).2.2.2.2]
    have := puts_ixs 0 A (newD 32) i hi A.length hi (Nat.le_refl _)
    rwa [List.take_of_length_le (Nat.le_refl _), Int.zero_add] at this
  · intro c hc
    have := ixs_key 16 B c hc
    omega
theorem crash_B (fs : List Int) (A B : List (List UInt8)) (i : Nat) (hi : i < B.length) (hB : B.length ≤ 16) (hA : A.length ≤ 16) : readV (16 + (i : Int)) (crashD fs (s3 A B)) = fateV (fs.getD i 0) B[i] [] := by
  rw [crash_V fs A B _ (by omega) (by omega)]
  have := fates_ixs fs 16 B (bareD (s3 A B)) i hi B.length hi (Nat.le_refl _)
  rw [List.take_of_length_le (Nat.le_refl _)] at this
  rw [this]
  congr 1
  show (s3 A B).safe (16 + (i : Int)) = []
  rw [(s3_same A B).2.2.2.2, puts_other]
  · rfl
  · intro c hc
    have := ixs_key 0 A c hc
    omega
theorem s1_since (A : List (List UInt8)) : (s1 A).since.length = A.length := ixs_length 0 A

set_option maxRecDepth 100000 in
set_option maxHeartbeats 3200000 in
theorem flushes_any {w : World} (a : Option Addr) (len cap : Nat) (A : List (List UInt8)) (hR : Rd w 1 (.slice a len cap) len (A.map str)) (hA : ∀ t ∈ A, t.length ≤ maxLen)
    (a1 : Option Addr) (len1 cap1 : Nat) (B : List (List UInt8)) (hR1 : Rd w 1 (.slice a1 len1 cap1) len1 (B.map str)) (hB : ∀ t ∈ B, t.length ≤ maxLen)
    (a2 : Option Addr) (len2 cap2 : Nat) (fs : List Int) (hR2 : Rd w 1 (.slice a2 len2 cap2) len2 (fs.map (Value.int .i64))) (hfs : ∀ f ∈ fs, (Lit.int .i64 f).wf = true) :
    Calls Try.prog 5 #[.slice a len cap, .slice a1 len1 cap1, .slice a2 len2 cap2] w fun e w' => e = .returned (.bool true) ∧ Ext [] w w' := by
  have hl : A.length = len := by have := hR.len; simp at this; omega
  have hl1 : B.length = len1 := by have := hR1.len; simp at this; omega
  have hl2 : fs.length = len2 := by have := hR2.len; simp at this; omega
  clear hfs
  by_cases hgo : 16 < len ∨ 16 < len1 ∨ 60 < len2
  · obtain h | ⟨g, h⟩ | ⟨g, g1, h⟩ : 16 < len ∨ (¬ 16 < len ∧ 16 < len1) ∨ (¬ 16 < len ∧ ¬ 16 < len1 ∧ 60 < len2) := by omega
    all_goals (
      clear hgo
      go_enter Try.func5, Try.ntmps5
      go_wp2_with fail
      refine (head3_any w).mono ?_
      rintro e w1 ⟨rfl, hx⟩
      go_wp2
      go_ret
      exact ⟨rfl, hx⟩)
  · have h16 : len ≤ 16 := by omega
    have h161 : len1 ≤ 16 := by omega
    have h60 : len2 ≤ 60 := by omega
    clear hgo
    go_enter Try.func5, Try.ntmps5
    go_wp2_with fail
    refine (head3_any w).mono ?_
    rintro e w1 ⟨rfl, hx⟩
    go_wp2_with fail
    refine (new_n 32 w w1 hx).mono ?_
    rintro e w2 ⟨b, rfl, hd, hx2⟩
    rw [s1_nil] at hd
    clear hx hx2
    go_wp2
    go_loopw [41] (fun i wr => ∃ k : Nat, k ≤ len ∧ i = .int .i64 k ∧ DevN w wr b (s1 (A.take k))) (fun i _ => len - (intOf i).toNat)
    case atStart => exact ⟨0, by omega, rfl, hd⟩
    case round =>
      clear hd
      obtain ⟨k, hk, rfl, hd⟩ := hrel
      have hdx := hd.ext
      by_cases hlt : k < len
      · obtain ⟨g, off, rfl, hgw, hc⟩ := hR.view (by omega)
        have c0 := hdx.cell (p := ⟨g, off + k, none⟩) (by simp) (hc k (str A[k]) (by rw [List.getElem?_map, List.getElem?_eq_getElem (by omega)]; rfl))
        have htl := hA A[k] (List.getElem_mem _)
        have htk : A.take (k + 1) = A.take k ++ [A[k]] := List.take_succ_eq_append_getElem (by omega)
        have hwr := s1_write (A.take k) A[k]
        have hcl : (s1 (A.take k)).since.length ≤ 1000000 := by rw [s1_since, List.length_take]; omega
        rw [← htk, List.length_take, Nat.min_eq_left (by omega)] at hwr
        obtain ⟨s, hs⟩ : ∃ s, s = A[k] := ⟨_, rfl⟩
        rw [← hs] at c0 htl hwr
        have htl2 : s.length ≤ 9223372036854775807 := by unfold maxLen at htl; omega
        clear hs hc htk
        by_cases hbig : 512 < s.length
        · clear hwr hR hR1 hR2 hA hB
          go_wp2
          go_ret
          exact ⟨rfl, hdx⟩
        · obtain ⟨hw1, hw2⟩ := hwr (by omega) (by omega)
          have cw := write_n b _ k s w wr hd hcl
          rw [hw1, hw2] at cw
          have hn3 : ¬ 512 < s.length := hbig
          clear hwr hw1 hw2 hd hcl hbig
          go_wp2_with fail
          refine cw.mono ?_
          rintro e w3 ⟨rfl, hd3⟩
          clear cw c0 hdx
          go_wp2
          go_roundw
          case rel => exact ⟨k + 1, by omega, by go_num, hd3⟩
          case measure => simp [intOf]; omega
      · have hkl : k = len := by omega
        subst hkl
        rw [List.take_of_length_le (by omega)] at hd
        obtain ⟨f1, f2⟩ := s1_flush A
        have cf := flush_n b _ w wr hd
        rw [f1, f2] at cf
        clear f1 f2 hd hlt hk
        go_wp2_with fail
        refine cf.mono ?_
        rintro e w4 ⟨rfl, hd⟩
        clear cf hdx
        go_wp2
        go_loopw [65] (fun i wr => ∃ k : Nat, k ≤ len1 ∧ i = .int .i64 k ∧ DevN w wr b (s3 A (B.take k))) (fun i _ => len1 - (intOf i).toNat)
        case atStart => exact ⟨0, by omega, rfl, hd⟩
        case round =>
          clear hd
          obtain ⟨k1, hk1, rfl, hd⟩ := hrel
          have hdx := hd.ext
          by_cases hlt1 : k1 < len1
          · obtain ⟨g, off, rfl, hgw, hc⟩ := hR1.view (by omega)
            have c0 := hdx.cell (p := ⟨g, off + k1, none⟩) (by simp) (hc k1 (str B[k1]) (by rw [List.getElem?_map, List.getElem?_eq_getElem (by omega)]; rfl))
            have htl := hB B[k1] (List.getElem_mem _)
            have htk : B.take (k1 + 1) = B.take k1 ++ [B[k1]] := List.take_succ_eq_append_getElem (by omega)
            have hwr := s3_write A (B.take k1) B[k1]
            have hcl : (s3 A (B.take k1)).since.length ≤ 1000000 := by rw [s3_since, List.length_take]; omega
            rw [← htk, List.length_take, Nat.min_eq_left (by omega)] at hwr
            obtain ⟨s, hs⟩ : ∃ s, s = B[k1] := ⟨_, rfl⟩
            rw [← hs] at c0 htl hwr
            have htl2 : s.length ≤ 9223372036854775807 := by unfold maxLen at htl; omega
            clear hs hc htk
            by_cases hbig : 512 < s.length
            · clear hwr hR hR1 hR2 hA hB
              go_wp2
              go_ret
              exact ⟨rfl, hdx⟩
            · obtain ⟨hw1, hw2⟩ := hwr (by omega) (by omega)
              have cw := write_n b _ (16 + (k1 : Int)) s w wr hd hcl
              rw [hw1, hw2] at cw
              have hn3 : ¬ 512 < s.length := hbig
              clear hwr hw1 hw2 hd hcl hbig
              go_wp2_with fail
              refine cw.mono ?_
              rintro e w3 ⟨rfl, hd3⟩
              clear cw c0 hdx
              go_wp2
              go_roundw
              case rel => exact ⟨k1 + 1, by omega, by go_num, hd3⟩
              case measure => simp [intOf]; omega
          · have hkl : k1 = len1 := by omega
            subst hkl
            rw [List.take_of_length_le (by omega)] at hd
            clear hlt1 hk1
            go_wp2_with fail
            refine (crash_n b _ _ _ _ fs w _ hd (hR2.keep hdx (by simp))).mono ?_
            rintro e w5 ⟨b2, rfl, hd5, hx5⟩
            clear hd hdx hx5
            go_wp2
            go_loopw [90] (fun i wr => ∃ j : Nat, j ≤ k ∧ i = .int .i64 j ∧ DevN w wr b2 (crashD fs (s3 A B))) (fun i _ => k - (intOf i).toNat)
            case atStart => exact ⟨0, by omega, rfl, hd5⟩
            case round =>
              clear hd5
              obtain ⟨j, hj, rfl, hd⟩ := hrel
              have hdx := hd.ext
              by_cases hlt2 : j < k
              · obtain ⟨g, off, rfl, hgw, hc⟩ := hR.view (by omega)
                have c0 := hdx.cell (p := ⟨g, off + j, none⟩) (by simp) (hc j (str A[j]) (by rw [List.getElem?_map, List.getElem?_eq_getElem (by omega)]; rfl))
                have cr := dread_n b2 _ j w wr hd
                rw [crash_E fs A B j (by omega) (by omega), crash_A fs A B j (by omega) (by omega)] at cr
                obtain ⟨s, hs⟩ : ∃ s, s = A[j] := ⟨_, rfl⟩
                rw [← hs] at c0 cr
                clear hs hc hd
                go_wp2_with fail
                refine cr.mono ?_
                rintro e w6 ⟨rfl, hd6, hx6⟩
                clear cr c0 hdx hx6
                go_wp2
                go_roundw
                case rel => exact ⟨j + 1, by omega, by go_num, hd6⟩
                case measure => simp [intOf]; omega
              · have hkl : j = k := by omega
                subst hkl
                clear hlt2 hj hdx
                go_wp2
                go_loopw [111] (fun i wr => ∃ j : Nat, j ≤ k1 ∧ i = .int .i64 j ∧ DevN w wr b2 (crashD fs (s3 A B))) (fun i _ => k1 - (intOf i).toNat)
                case atStart => exact ⟨0, by omega, rfl, hd⟩
                case round =>
                  clear hd
                  obtain ⟨j2, hj2, rfl, hd⟩ := hrel
                  have hdx := hd.ext
                  by_cases hlt3 : j2 < k1
                  · obtain ⟨g, off, rfl, hgw, hc⟩ := hR1.view (by omega)
                    have c0 := hdx.cell (p := ⟨g, off + j2, none⟩) (by simp) (hc j2 (str B[j2]) (by rw [List.getElem?_map, List.getElem?_eq_getElem (by omega)]; rfl))
                    have htl := hB B[j2] (List.getElem_mem _)
                    have cr := dread_n b2 _ (16 + (j2 : Int)) w wr hd
                    rw [crash_E fs A B _ (by omega) (by omega), crash_B fs A B j2 (by omega) (by omega) (by omega)] at cr
                    obtain ⟨s, hs⟩ : ∃ s, s = B[j2] := ⟨_, rfl⟩
                    rw [← hs] at c0 cr htl
                    have htl2 : s.length ≤ 9223372036854775807 := by unfold maxLen at htl; omega
                    have u0 : (0 : Int) ≤ (s.length : Int) / 2 := by omega
                    have hex2 : ByteArray.extract ⟨s.toArray⟩ 0 (((s.length : Int) / 2).toNat) = ⟨(s.take (s.length / 2)).toArray⟩ := by
                      rw [show ((s.length : Int) / 2).toNat = s.length / 2 by omega]; exact take_extract s _ (by omega)
                    have hex : ByteArray.extract ⟨s.toArray⟩ 0 (s.length / 2) = ⟨(s.take (s.length / 2)).toArray⟩ := take_extract s _ (by omega)
                    clear hs hc hd htl
                    by_cases hkf : j2 < len2
                    · obtain ⟨g3, off3, rfl, hg3w, hc3⟩ := hR2.view (by omega)
                      have cf0 := hc3 j2 (.int .i64 (fs.getD j2 0)) (by rw [List.getElem?_map, List.getElem?_eq_getElem (by omega)]; simp [List.getD, show j2 < fs.length by omega])
                      obtain ⟨f, hff⟩ : ∃ f, f = fs.getD j2 0 := ⟨_, rfl⟩
                      rw [← hff] at cf0 cr
                      clear hff hc3
                      by_cases hf1 : f = 1
                      · have hfv : fateV f s [] = s := if_pos hf1
                        rw [hfv] at cr
                        rw [hf1] at cf0
                        clear hf1 hfv
                        go_wp2_with fail
                        refine cr.mono ?_
                        rintro e w6 ⟨rfl, hd6, hx6⟩
                        have cf := (hdx.then0 hx6).cell (p := ⟨g3, off3 + j2, none⟩) (by simp) cf0
                        clear cr c0 hdx hx6 cf0
                        go_wp2
                        go_roundw
                        case rel => exact ⟨j2 + 1, by omega, by go_num, hd6⟩
                        case measure => simp [intOf]; omega
                      · have e1 : (f == 1) = false := by simp [hf1]
                        by_cases hf2 : f = 2
                        · have hfv : fateV f s [] = s.take (s.length / 2) := by rw [fateV, if_neg hf1, if_pos hf2]
                          rw [hfv] at cr
                          rw [hf2] at cf0
                          clear hf1 hf2 hfv e1
                          go_wp2_with fail
                          refine cr.mono ?_
                          rintro e w6 ⟨rfl, hd6, hx6⟩
                          have cf := (hdx.then0 hx6).cell (p := ⟨g3, off3 + j2, none⟩) (by simp) cf0
                          clear cr c0 hdx hx6 cf0
                          go_wp2
                          go_roundw
                          case rel => exact ⟨j2 + 1, by omega, by go_num, hd6⟩
                          case measure => simp [intOf]; omega
                        · have e2 : (f == 2) = false := by simp [hf2]
                          have hfv : fateV f s [] = [] := by rw [fateV, if_neg hf1, if_neg hf2]
                          rw [hfv] at cr
                          clear hf1 hf2 hfv
                          go_wp2_with fail
                          refine cr.mono ?_
                          rintro e w6 ⟨rfl, hd6, hx6⟩
                          have cf := (hdx.then0 hx6).cell (p := ⟨g3, off3 + j2, none⟩) (by simp) cf0
                          clear cr c0 hdx hx6 cf0
                          go_wp2
                          go_roundw
                          case rel => exact ⟨j2 + 1, by omega, by go_num, hd6⟩
                          case measure => simp [intOf]; omega
                    · have hg0 : fs.getD j2 0 = 0 := by rw [List.getD, List.getElem?_eq_none (by omega)]; rfl
                      have hfv : fateV (fs.getD j2 0) s [] = [] := by rw [hg0]; rfl
                      rw [hfv] at cr
                      have hkf2 : len2 ≤ j2 := by omega
                      clear hfv hg0 hkf
                      go_wp2_with fail
                      refine cr.mono ?_
                      rintro e w6 ⟨rfl, hd6, hx6⟩
                      clear cr c0 hdx hx6
                      go_wp2
                      go_roundw
                      case rel => exact ⟨j2 + 1, by omega, by go_num, hd6⟩
                      case measure => simp [intOf]; omega
                  · have hkl : j2 = k1 := by omega
                    subst hkl
                    have cs := size_n b2 _ w wr hd
                    have cd := down_n b2 _ w wr hd
                    have e1 : (crashD fs (s3 A B)).size = 32 := by rw [(crashD_size _ _).1, (s3_same A B).1]; rfl
                    rw [e1] at cs
                    rw [(crashD_size _ _).2.2.2.2] at cd
                    clear e1 hd hR hR1 hR2 hA hB
                    go_wp2_with fail
                    refine cs.mono ?_
                    rintro e w6 ⟨rfl, rfl⟩
                    go_wp2_with fail
                    refine cd.mono ?_
                    rintro e w6 ⟨rfl, rfl⟩
                    go_wp2
                    go_ret
                    exact ⟨rfl, hdx⟩
end Go.Proofs.Ytpnfgkgloioddaa
