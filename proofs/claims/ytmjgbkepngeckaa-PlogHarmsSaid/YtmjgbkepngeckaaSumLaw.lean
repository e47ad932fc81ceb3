/- Laws of the checksum: it is linear; what is turned within four bytes turns it. No program in sight. -/
import Derived.Test.YtmjgbkepngeckaaSumPlain
namespace Go.Proofs.Ytmjgbkepngeckaa

theorem and_one_iff (x : BitVec 32) : (x &&& 1#32 = 1#32) ↔ x.getLsbD 0 = true := by
  constructor
  · intro h
    have := congrArg (fun y => BitVec.getLsbD y 0) h
    simpa using this
  · intro h
    apply BitVec.eq_of_getLsbD_eq
    intro i hi
    by_cases h0 : i = 0
    · subst h0; simp [h]
    · simp [BitVec.getLsbD_one, h0]
def pb (b : Bool) : BitVec 32 := if b then poly else 0#32
theorem stp_eq (x : BitVec 32) : stp x = (x >>> 1) ^^^ pb (x.getLsbD 0) := by
  unfold stp pb
  by_cases h : x.getLsbD 0 = true
  · rw [if_pos ((and_one_iff x).2 h), if_pos h]
  · rw [if_neg (fun h' => h ((and_one_iff x).1 h')), if_neg h, BitVec.xor_zero]
theorem pb_xor (a b : Bool) : pb (a ^^ b) = pb a ^^^ pb b := by cases a <;> cases b <;> simp [pb]
theorem xor4 (a b c d : BitVec 32) : (a ^^^ b) ^^^ (c ^^^ d) = (a ^^^ c) ^^^ (b ^^^ d) := by
  rw [BitVec.xor_assoc, BitVec.xor_assoc, ← BitVec.xor_assoc b, BitVec.xor_comm b c, BitVec.xor_assoc c]
theorem stp_xor (x y : BitVec 32) : stp (x ^^^ y) = stp x ^^^ stp y := by
  rw [stp_eq, stp_eq x, stp_eq y, BitVec.getLsbD_xor, pb_xor, BitVec.ushiftRight_xor_distrib, xor4]
theorem stp_zero : stp 0#32 = 0#32 := by decide
theorem stps_xor (n : Nat) (x y : BitVec 32) : stps n (x ^^^ y) = stps n x ^^^ stps n y := by
  induction n with
  | zero => rfl
  | succ n ih => simp only [stps, ih, stp_xor]
theorem stps_zero (n : Nat) : stps n 0#32 = 0#32 := by
  induction n with
  | zero => rfl
  | succ n ih => simp only [stps, ih, stp_zero]
theorem poly_msb : poly.getLsbD 31 = true := by decide
theorem stp_ker (x : BitVec 32) (h : stp x = 0#32) : x = 0#32 := by
  rw [stp_eq] at h
  have h31 := congrArg (fun y => BitVec.getLsbD y 31) h
  simp only [BitVec.getLsbD_xor, BitVec.getLsbD_ushiftRight, BitVec.getLsbD_zero] at h31
  have hb : x.getLsbD 0 = false := by
    cases hx : x.getLsbD 0
    · rfl
    · rw [hx] at h31
      have h32 : (false ^^ poly.getLsbD 31) = false := by simpa [pb] using h31
      rw [poly_msb] at h32
      exact h32
  rw [hb] at h
  simp only [pb, Bool.false_eq_true, if_false, BitVec.xor_zero] at h
  apply BitVec.eq_of_getLsbD_eq
  intro i hi
  by_cases h0 : i = 0
  · subst h0; simpa using hb
  · have := congrArg (fun y => BitVec.getLsbD y (i - 1)) h
    simp only [BitVec.getLsbD_ushiftRight, BitVec.getLsbD_zero] at this
    rw [show 1 + (i - 1) = i by omega] at this
    simpa using this
theorem stps_ker (n : Nat) (x : BitVec 32) (h : stps n x = 0#32) : x = 0#32 := by
  induction n with
  | zero => exact h
  | succ n ih => exact ih (stp_ker _ h)
theorem xor_eq_zero {x y : BitVec 32} (h : x ^^^ y = 0#32) : x = y := by
  have := congrArg (fun z => z ^^^ y) h
  simpa [BitVec.xor_assoc] using this
theorem stps_inj {n : Nat} {x y : BitVec 32} (h : stps n x = stps n y) : x = y := by
  apply xor_eq_zero
  apply stps_ker n
  rw [stps_xor, h, BitVec.xor_self]
theorem inB_inj {x : BitVec 32} {a b : UInt8} (h : inB x a = inB x b) : a = b := by
  unfold inB at h
  have h2 : BitVec.ofNat 32 a.toNat = BitVec.ofNat 32 b.toNat := by
    have := congrArg (fun z => x ^^^ z) h
    simpa [← BitVec.xor_assoc] using this
  have h3 := congrArg BitVec.toNat h2
  rw [BitVec.toNat_ofNat, BitVec.toNat_ofNat] at h3
  have ha := a.toNat_lt
  have hb := b.toNat_lt
  exact UInt8.toNat_inj.1 (by omega)
theorem inB_inj1 {x y : BitVec 32} {a : UInt8} (h : inB x a = inB y a) : x = y := by
  unfold inB at h
  have := congrArg (fun z => z ^^^ BitVec.ofNat 32 a.toNat) h
  simpa [BitVec.xor_assoc] using this
theorem byt_inj {x : BitVec 32} {a b : UInt8} (h : byt x a = byt x b) : a = b := inB_inj (stps_inj h)
theorem byt_inj1 {x y : BitVec 32} {a : UInt8} (h : byt x a = byt y a) : x = y := inB_inj1 (stps_inj h)
theorem upd_inj1 {x y : BitVec 32} {l : List UInt8} (h : upd x l = upd y l) : x = y := by
  induction l generalizing x y with
  | nil => exact h
  | cons c l ih => exact byt_inj1 (ih h)
theorem not_inj {x y : BitVec 32} (h : ~~~ x = ~~~ y) : x = y := by
  have := congrArg (fun z => ~~~ z) h
  simpa using this
theorem sumAdd_byte (s : BitVec 32) (a b : UInt8) : sumAdd s [a] = sumAdd s [b] ↔ a = b := by
  constructor
  · intro h
    exact byt_inj (not_inj h)
  · intro h; rw [h]

/-- Three lists of bytes, bit by bit together. -/
def xor3 : List UInt8 → List UInt8 → List UInt8 → List UInt8
  | a :: x, b :: y, c :: z => (a ^^^ b ^^^ c) :: xor3 x y z
  | _, _, _ => []
theorem inB_xor3 (x y z : BitVec 32) (a b c : UInt8) : inB (x ^^^ y ^^^ z) (a ^^^ b ^^^ c) = inB x a ^^^ inB y b ^^^ inB z c := by
  have h : BitVec.ofNat 32 (a ^^^ b ^^^ c).toNat = BitVec.ofNat 32 a.toNat ^^^ BitVec.ofNat 32 b.toNat ^^^ BitVec.ofNat 32 c.toNat := by
    rw [UInt8.toNat_xor, UInt8.toNat_xor]
    apply BitVec.eq_of_getLsbD_eq
    intro i hi
    simp [hi]
  unfold inB
  rw [h, xor4 (x ^^^ y), xor4 x y]
theorem upd_xor3 : ∀ (a b c : List UInt8) (x y z : BitVec 32), a.length = b.length → a.length = c.length →
    upd (x ^^^ y ^^^ z) (xor3 a b c) = upd x a ^^^ upd y b ^^^ upd z c := by
  intro a
  induction a with
  | nil =>
    intro b c x y z hb hc
    have : b = [] := List.eq_nil_of_length_eq_zero hb.symm
    have : c = [] := List.eq_nil_of_length_eq_zero hc.symm
    subst b; subst c; rfl
  | cons a l ih =>
    intro b c x y z hb hc
    cases b with
    | nil => simp at hb
    | cons b m =>
      cases c with
      | nil => simp at hc
      | cons c k =>
        show upd (byt (x ^^^ y ^^^ z) (a ^^^ b ^^^ c)) (xor3 l m k) = upd (byt x a) l ^^^ upd (byt y b) m ^^^ upd (byt z c) k
        rw [byt, inB_xor3, stps_xor, stps_xor]
        exact ih m k _ _ _ (by simpa using hb) (by simpa using hc)
theorem not_eq_xor (x : BitVec 32) : ~~~ x = x ^^^ BitVec.allOnes 32 := by rw [BitVec.xor_allOnes]
theorem sumOf_xor3 (a b c : List UInt8) (hb : a.length = b.length) (hc : a.length = c.length) : sumOf (xor3 a b c) = sumOf a ^^^ sumOf b ^^^ sumOf c := by
  have h := upd_xor3 a b c (~~~ 0#32) (~~~ 0#32) (~~~ 0#32) hb hc
  have e : (~~~ 0#32) ^^^ (~~~ 0#32) ^^^ (~~~ 0#32) = ~~~ 0#32 := by decide
  rw [e] at h
  unfold sumOf sumAdd
  rw [h]
  generalize upd (~~~ 0#32) a = p
  generalize upd (~~~ 0#32) b = q
  generalize upd (~~~ 0#32) c = r
  apply BitVec.eq_of_getLsbD_eq
  intro i hi
  simp [hi]

/-! Four bytes. -/
theorem stp_shl (v : BitVec 32) (h : v.getLsbD 31 = false) : stp (v <<< 1) = v := by
  rw [stp_eq]
  have h0 : (v <<< 1).getLsbD 0 = false := by simp
  rw [h0]
  simp only [pb, Bool.false_eq_true, if_false, BitVec.xor_zero]
  apply BitVec.eq_of_getLsbD_eq
  intro i hi
  rw [BitVec.getLsbD_ushiftRight, BitVec.getLsbD_shiftLeft]
  by_cases h31 : i = 31
  · subst h31
    rw [h]
    simp
  · simp [show 1 + i < 32 by omega]
theorem stps_shl : ∀ (n : Nat) (w : BitVec 32), (∀ i, 32 - n ≤ i → w.getLsbD i = false) → stps n (w <<< n) = w := by
  intro n
  induction n with
  | zero => intro w _; simp [stps]
  | succ n ih =>
    intro w hw
    have e : w <<< (n + 1) = (w <<< 1) <<< n := by rw [← BitVec.shiftLeft_add, Nat.add_comm]
    rw [stps, e, ih (w <<< 1) (fun i hi => by
      rw [BitVec.getLsbD_shiftLeft]
      by_cases h32 : i < 32
      · rw [hw (i - 1) (by omega)]; simp
      · simp [h32])]
    exact stp_shl w (hw 31 (by omega))
theorem stps_add (m n : Nat) (x : BitVec 32) : stps (m + n) x = stps n (stps m x) := by
  induction n with
  | zero => rfl
  | succ n ih => rw [← Nat.add_assoc, stps, ih]; rfl
theorem byte_high (c : UInt8) (i : Nat) (h : 8 ≤ i) : (BitVec.ofNat 32 c.toNat).getLsbD i = false := by
  rw [BitVec.getLsbD_ofNat]
  have : c.toNat.testBit i = false := Nat.testBit_lt_two_pow (Nat.lt_of_lt_of_le c.toNat_lt (Nat.pow_le_pow_right (by decide) h))
  simp [this]
/-- Four bytes as a word. -/
def word (a b c d : UInt8) : BitVec 32 := BitVec.ofNat 32 a.toNat ^^^ (BitVec.ofNat 32 b.toNat <<< 8) ^^^ (BitVec.ofNat 32 c.toNat <<< 16) ^^^ (BitVec.ofNat 32 d.toNat <<< 24)
theorem stps_byte (k : Nat) (hk : k ≤ 24) (c : UInt8) : stps k (BitVec.ofNat 32 c.toNat <<< k) = BitVec.ofNat 32 c.toNat :=
  stps_shl k _ (fun i hi => byte_high c i (by omega))
theorem upd4 (x : BitVec 32) (a b c d : UInt8) : upd x [a, b, c, d] = stps 32 (x ^^^ word a b c d) := by
  show stps 8 (stps 8 (stps 8 (stps 8 (x ^^^ _) ^^^ _) ^^^ _) ^^^ _) = _
  have e : stps 32 (x ^^^ word a b c d) = stps 8 (stps 8 (stps 8 (stps 8 (x ^^^ word a b c d)))) := by
    rw [← stps_add, ← stps_add, ← stps_add]
  rw [e, word]
  have hb : stps 8 (BitVec.ofNat 32 b.toNat <<< 8) = BitVec.ofNat 32 b.toNat := stps_byte 8 (by omega) b
  have hc : stps 8 (stps 8 (BitVec.ofNat 32 c.toNat <<< 16)) = BitVec.ofNat 32 c.toNat := by rw [← stps_add]; exact stps_byte 16 (by omega) c
  have hd : stps 8 (stps 8 (stps 8 (BitVec.ofNat 32 d.toNat <<< 24))) = BitVec.ofNat 32 d.toNat := by rw [← stps_add, ← stps_add]; exact stps_byte 24 (by omega) d
  simp only [← BitVec.xor_assoc, stps_xor, hb, hc, hd]
theorem sh_lo (c : UInt8) (k i : Nat) (h : i < k) : (BitVec.ofNat 32 c.toNat <<< k).getLsbD i = false := by rw [BitVec.getLsbD_shiftLeft]; simp [h]
theorem sh_hi (c : UInt8) (k i : Nat) (h : k + 8 ≤ i) : (BitVec.ofNat 32 c.toNat <<< k).getLsbD i = false := by
  rw [BitVec.getLsbD_shiftLeft, byte_high c (i - k) (by omega)]; simp
theorem sh_at (c : UInt8) (k i : Nat) (h : k + i < 32) : (BitVec.ofNat 32 c.toNat <<< k).getLsbD (k + i) = (BitVec.ofNat 32 c.toNat).getLsbD i := by
  rw [BitVec.getLsbD_shiftLeft, Nat.add_sub_cancel_left]
  simp [h]
theorem byte_ext {a b : UInt8} (h : ∀ i, i < 8 → (BitVec.ofNat 32 a.toNat).getLsbD i = (BitVec.ofNat 32 b.toNat).getLsbD i) : a = b := by
  have e : BitVec.ofNat 32 a.toNat = BitVec.ofNat 32 b.toNat := by
    apply BitVec.eq_of_getLsbD_eq
    intro i _
    by_cases hi : i < 8
    · exact h i hi
    · rw [byte_high a i (by omega), byte_high b i (by omega)]
  have e2 := congrArg BitVec.toNat e
  rw [BitVec.toNat_ofNat, BitVec.toNat_ofNat] at e2
  have := a.toNat_lt; have := b.toNat_lt
  exact UInt8.toNat_inj.1 (by omega)
theorem word_a (a b c d : UInt8) (i : Nat) (h : i < 8) : (word a b c d).getLsbD i = (BitVec.ofNat 32 a.toNat).getLsbD i := by
  simp only [word, BitVec.getLsbD_xor, sh_lo b 8 i (by omega), sh_lo c 16 i (by omega), sh_lo d 24 i (by omega), Bool.xor_false]
theorem word_b (a b c d : UInt8) (i : Nat) (h : i < 8) : (word a b c d).getLsbD (8 + i) = (BitVec.ofNat 32 b.toNat).getLsbD i := by
  simp only [word, BitVec.getLsbD_xor, byte_high a (8 + i) (by omega), sh_at b 8 i (by omega), sh_lo c 16 (8 + i) (by omega), sh_lo d 24 (8 + i) (by omega), Bool.xor_false, Bool.false_xor]
theorem word_c (a b c d : UInt8) (i : Nat) (h : i < 8) : (word a b c d).getLsbD (16 + i) = (BitVec.ofNat 32 c.toNat).getLsbD i := by
  simp only [word, BitVec.getLsbD_xor, byte_high a (16 + i) (by omega), sh_hi b 8 (16 + i) (by omega), sh_at c 16 i (by omega), sh_lo d 24 (16 + i) (by omega), Bool.xor_false, Bool.false_xor]
theorem word_d (a b c d : UInt8) (i : Nat) (h : i < 8) : (word a b c d).getLsbD (24 + i) = (BitVec.ofNat 32 d.toNat).getLsbD i := by
  simp only [word, BitVec.getLsbD_xor, byte_high a (24 + i) (by omega), sh_hi b 8 (24 + i) (by omega), sh_hi c 16 (24 + i) (by omega), sh_at d 24 i (by omega), Bool.false_xor]
theorem word_inj {a b c d a' b' c' d' : UInt8} (h : word a b c d = word a' b' c' d') : a = a' ∧ b = b' ∧ c = c' ∧ d = d' := by
  refine ⟨byte_ext fun i hi => ?_, byte_ext fun i hi => ?_, byte_ext fun i hi => ?_, byte_ext fun i hi => ?_⟩
  · rw [← word_a a b c d i hi, h, word_a _ _ _ _ i hi]
  · rw [← word_b a b c d i hi, h, word_b _ _ _ _ i hi]
  · rw [← word_c a b c d i hi, h, word_c _ _ _ _ i hi]
  · rw [← word_d a b c d i hi, h, word_d _ _ _ _ i hi]
/-- Four bytes beside one another turned: another checksum. -/
theorem sumOf_four (p q : List UInt8) (a b c d a' b' c' d' : UInt8) (h : sumOf (p ++ [a, b, c, d] ++ q) = sumOf (p ++ [a', b', c', d'] ++ q)) : a = a' ∧ b = b' ∧ c = c' ∧ d = d' := by
  unfold sumOf sumAdd at h
  have h1 := not_inj h
  rw [upd_append, upd_append, upd_append _ (p ++ _), upd_append _ p] at h1
  have h2 := upd_inj1 h1
  rw [upd4, upd4] at h2
  have h3 := stps_inj h2
  refine word_inj ?_
  have := congrArg (fun z => upd (~~~ 0#32) p ^^^ z) h3
  simpa [← BitVec.xor_assoc] using this
theorem le4_inj {x y : BitVec 32} (h : le4 x = le4 y) : x = y := by
  simp only [le4, List.cons.injEq, and_true] at h
  obtain ⟨h1, h2, h3, h4⟩ := h
  have g1 := congrArg UInt8.toNat h1
  have g2 := congrArg UInt8.toNat h2
  have g3 := congrArg UInt8.toNat h3
  have g4 := congrArg UInt8.toNat h4
  simp only [UInt8.toNat_ofNat'] at g1 g2 g3 g4
  apply BitVec.eq_of_toNat_eq
  have := x.isLt; have := y.isLt
  omega
end Go.Proofs.Ytmjgbkepngeckaa
