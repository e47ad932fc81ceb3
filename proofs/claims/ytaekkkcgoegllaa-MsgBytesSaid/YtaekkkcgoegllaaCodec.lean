/- Readers and what they read: laws that compose. No program is named here. -/
import Derived.Test.YtaekkkcgoegllaaRdLaw
namespace Go.Proofs.Ytaekkkcgoegllaa
set_option linter.unusedVariables false
set_option linter.unusedSimpArgs false

abbrev St := List UInt8 × Bool
structure Codec {α : Type} (R : St → α × St) (enc : α → List UInt8) (ok : α → Prop) : Prop where
  bad : (R ([], true)).2 = ([], true)
  sound : ∀ s, (R (s, false)).2 = ([], true) ∨ ∃ s', (R (s, false)).2 = (s', false) ∧ s = enc (R (s, false)).1 ++ s' ∧ ok (R (s, false)).1
  encs : ∀ v s, ok v → R (enc v ++ s, false) = (v, (s, false))
def seqR {α β : Type} (R : St → α × St) (Q : α → St → β × St) (st : St) : (α × β) × St := (((R st).1, (Q (R st).1 (R st).2).1), (Q (R st).1 (R st).2).2)
def mapR {α β : Type} (f : α → β) (R : St → α × St) (st : St) : β × St := (f (R st).1, (R st).2)
def repR {α : Type} (R : St → α × St) : Nat → St → List α × St
  | 0, st => ([], st)
  | k + 1, st => ((R st).1 :: (repR R k (R st).2).1, (repR R k (R st).2).2)
def listR {α : Type} (most : Int) (R : St → α × St) : St → List α × St := mapR (·.2) (seqR (numR most) fun n => repR R n.toNat)
theorem Codec.seq {α β : Type} {R : St → α × St} {Q : α → St → β × St} {e1 : α → List UInt8} {e2 : α → β → List UInt8} {o1 : α → Prop} {o2 : α → β → Prop} (h : Codec R e1 o1) (hb : ∀ a, (Q a ([], true)).2 = ([], true)) (hq : ∀ a, o1 a → Codec (Q a) (e2 a) (o2 a)) :
    Codec (seqR R Q) (fun p => e1 p.1 ++ e2 p.1 p.2) (fun p => o1 p.1 ∧ o2 p.1 p.2) := by
  refine ⟨?_, fun s => ?_, fun v s hv => ?_⟩
  · unfold seqR; simp only [h.bad, hb]
  · unfold seqR
    rcases h.sound s with h1 | ⟨s', h1, h2, h3⟩
    · left; simp only [h1, hb]
    · rcases (hq _ h3).sound s' with h4 | ⟨s'', h4, h5, h6⟩
      · left; simp only [h1, h4]
      · right
        refine ⟨s'', by simp only [h1, h4], ?_, ?_⟩
        · simp only [h1]
          rw [List.append_assoc, ← h5, ← h2]
        · simp only [h1]; exact ⟨h3, h6⟩
  · obtain ⟨a, b⟩ := v
    have h1 := h.encs a (e2 a b ++ s) hv.1
    have h2 := (hq a hv.1).encs b s hv.2
    unfold seqR
    rw [List.append_assoc, h1]
    simp only [h2]
theorem Codec.map {α β : Type} {R : St → α × St} {e : α → List UInt8} {o : α → Prop} (h : Codec R e o) (f : α → β) (e' : β → List UInt8) (o' : β → Prop) (g : β → α) (hfg : ∀ b, o' b → f (g b) = b ∧ e' b = e (g b) ∧ o (g b)) (hgf : ∀ a, o a → e' (f a) = e a ∧ o' (f a)) : Codec (mapR f R) e' o' := by
  refine ⟨h.bad, fun s => ?_, fun v s hv => ?_⟩
  · unfold mapR
    rcases h.sound s with h1 | ⟨s', h1, h2, h3⟩
    · exact .inl h1
    · exact .inr ⟨s', h1, by rw [(hgf _ h3).1]; exact h2, (hgf _ h3).2⟩
  · obtain ⟨h1, h2, h3⟩ := hfg v hv
    unfold mapR
    rw [h2, h.encs _ s h3, h1]
theorem Codec.rep {α : Type} {R : St → α × St} {e : α → List UInt8} {o : α → Prop} (h : Codec R e o) : ∀ k, Codec (repR R k) (·.flatMap e) (fun l => l.length = k ∧ ∀ x ∈ l, o x)
  | 0 => ⟨rfl, fun s => .inr ⟨s, rfl, rfl, rfl, by simp [repR]⟩, fun v s hv => by
      obtain rfl : v = [] := List.length_eq_zero_iff.1 hv.1
      rfl⟩
  | k + 1 => by
    have ih := Codec.rep h k
    refine ⟨?_, fun s => ?_, fun v s hv => ?_⟩
    · unfold repR; simp only [h.bad, ih.bad]
    · unfold repR
      rcases h.sound s with h1 | ⟨s', h1, h2, h3⟩
      · left; simp only [h1, ih.bad]
      · rcases ih.sound s' with h4 | ⟨s'', h4, h5, h6⟩
        · left; simp only [h1, h4]
        · right
          refine ⟨s'', by simp only [h1, h4], ?_, ?_, ?_⟩
          · simp only [h1]
            rw [List.flatMap_cons, List.append_assoc, ← h5, ← h2]
          · simp only [h1]; rw [List.length_cons, h6.1]
          · simp only [h1]
            intro x hx
            rcases List.mem_cons.1 hx with rfl | hx
            · exact h3
            · exact h6.2 x hx
    · cases v with
      | nil => simp at hv
      | cons a l =>
        have h1 := h.encs a (l.flatMap e ++ s) (hv.2 a (by simp))
        have h2 := ih.encs l s ⟨by simpa using hv.1, fun x hx => hv.2 x (by simp [hx])⟩
        unfold repR
        rw [List.flatMap_cons, List.append_assoc, h1]
        simp only [h2]
theorem numC (most : Int) (h0 : 0 ≤ most) (hm : most ≤ 281474976710655) : Codec (numR most) encNum (fun n => 0 ≤ n ∧ n ≤ most) :=
  ⟨by rw [numR_bad], fun s => by
    rcases numR_sound most s hm with ⟨h, _⟩ | ⟨s', h1, h2, h3, h4⟩
    · exact .inl h
    · exact .inr ⟨s', by rw [h1], h2, h3, by omega⟩, fun v s hv => numR_enc most v s hv.1 hv.2 hm⟩
theorem textC (most : Int) (hm : most ≤ 65535) : Codec (textR most) encText (fun t => (t.length : Int) ≤ most) :=
  ⟨by rw [textR_bad], fun s => by
    rcases textR_sound most s hm with ⟨h, _⟩ | ⟨s', h1, h2, h3⟩
    · exact .inl h
    · exact .inr ⟨s', by rw [h1], h2, h3⟩, fun v s hv => textR_enc most v s hv (by omega)⟩
theorem flagC : Codec flagR encFlag (fun _ => True) := by
  refine ⟨by rw [flagR, takeR_bad]; rfl, fun s => ?_, fun v s _ => ?_⟩
  · cases s with
    | nil => left; rw [flagR, takeR_short 1 [] (by simp)]; rfl
    | cons c r =>
      rw [flagR, takeR_ok 1 (c :: r) (by simp)]
      simp only [List.take_succ_cons, List.take_zero, List.drop_succ_cons, List.drop_zero, flagOf]
      split
      · exact .inl rfl
      · rename_i h
        refine .inr ⟨r, rfl, ?_, trivial⟩
        have : c = 0 ∨ c = 1 := by
          have : c.toNat = 0 ∨ c.toNat = 1 := by omega
          rcases this with h | h
          · exact .inl (UInt8.toNat_inj.1 h)
          · exact .inr (UInt8.toNat_inj.1 h)
        rcases this with rfl | rfl <;> rfl
  · cases v <;> rfl
theorem listC {α : Type} {R : St → α × St} {e : α → List UInt8} {o : α → Prop} (h : Codec R e o) (most : Int) (h0 : 0 ≤ most) (hm : most ≤ 281474976710655) : Codec (listR most R) (fun l => encNum (l.length : Int) ++ l.flatMap e) (fun l => (l.length : Int) ≤ most ∧ ∀ x ∈ l, o x) := by
  refine Codec.map (Codec.seq (numC most h0 hm) (fun a => (h.rep _).bad) (fun a _ => h.rep a.toNat)) (·.2) _ _ (fun l => ((l.length : Int), l)) (fun l hl => ⟨rfl, rfl, ⟨⟨by omega, hl.1⟩, by simp, hl.2⟩⟩) (fun p hp => ?_)
  obtain ⟨⟨h1, h2⟩, h3, h4⟩ := hp
  have e : ((p.2.length : Nat) : Int) = p.1 := by rw [h3]; omega
  exact ⟨by rw [e], by omega, h4⟩
/-- Read whole: what was written. -/
theorem Codec.all {α : Type} {R : St → α × St} {e : α → List UInt8} {o : α → Prop} (h : Codec R e o) (s : List UInt8) : doneR (R (s, false)).2 = 0 ↔ s = e (R (s, false)).1 ∧ o (R (s, false)).1 := by
  rw [doneR_iff]
  constructor
  · intro h1
    rcases h.sound s with h2 | ⟨s', h2, h3, h4⟩
    · rw [h1] at h2; cases h2
    · rw [h1] at h2; cases h2
      exact ⟨by simpa using h3, h4⟩
  · rintro ⟨h1, h2⟩
    have := h.encs _ [] h2
    rw [List.append_nil, ← h1] at this
    rw [this]
theorem Codec.inj {α : Type} {R : St → α × St} {e : α → List UInt8} {o : α → Prop} (h : Codec R e o) {a b : α} (ha : o a) (hb : o b) (he : e a = e b) : a = b := by
  have h1 := h.encs a [] ha
  have h2 := h.encs b [] hb
  rw [he, h2] at h1
  exact (Prod.mk.inj h1).1.symm
/-- Cut off it is none. -/
theorem Codec.cut {α : Type} {R : St → α × St} {e : α → List UInt8} {o : α → Prop} (h : Codec R e o) {a : α} (ha : o a) (c : Nat) (hc : c < (e a).length) : ¬ doneR (R ((e a).take c, false)).2 = 0 := by
  intro hd
  obtain ⟨h1, h2⟩ := (h.all _).1 hd
  generalize (R ((e a).take c, false)).1 = b at h1 h2
  have h3 := h.encs b ((e a).drop c) h2
  rw [← h1, List.take_append_drop] at h3
  have h4 := h.encs a [] ha
  rw [List.append_nil, h3] at h4
  have h5 : (e a).drop c = [] := by have := (Prod.mk.inj h4).2; exact (Prod.mk.inj this).1
  have := List.drop_eq_nil_iff.1 h5
  omega
end Go.Proofs.Ytaekkkcgoegllaa
