/- A message as bytes: a codec. -/
import Derived.Test.YtaekkkcgoegllaaCodec
import Derived.Test.YtaekkkcgoegllaaMsgs
namespace Go.Proofs.Ytaekkkcgoegllaa
set_option linter.unusedVariables false
set_option linter.unusedSimpArgs false

def R48 (n : Int) : Prop := 0 ≤ n ∧ n ≤ 281474976710655
instance (n : Int) : Decidable (R48 n) := inferInstanceAs (Decidable (_ ∧ _))
def En.enc (e : En) : List UInt8 := encNum e.index ++ (encNum e.term ++ encText e.data)
def En.right (e : En) : Prop := R48 e.index ∧ R48 e.term ∧ e.data.length ≤ 488
instance (e : En) : Decidable e.right := inferInstanceAs (Decidable (_ ∧ _ ∧ _))
def entR : St → En × St := mapR (fun p => ⟨p.1, p.2.1, p.2.2⟩) (seqR (numR 281474976710655) fun _ => seqR (numR 281474976710655) fun _ => textR 488)
theorem entC : Codec entR En.enc En.right := by
  refine Codec.map (Codec.seq (numC _ (by decide) (by decide)) (fun _ => (Codec.seq (numC _ (by decide) (by decide)) (fun _ => (textC 488 (by decide)).bad) (fun _ _ => textC 488 (by decide))).bad) (fun _ _ => Codec.seq (numC _ (by decide) (by decide)) (fun _ => (textC 488 (by decide)).bad) (fun _ _ => textC 488 (by decide)))) _ _ _ (fun e => (e.index, (e.term, e.data))) (fun e he => ⟨rfl, rfl, he.1, he.2.1, ?_⟩) (fun p hp => ⟨rfl, hp.1, hp.2.1, ?_⟩)
  · show (e.data.length : Int) ≤ 488
    have := he.2.2; omega
  · have h : (p.2.2.length : Int) ≤ 488 := hp.2.2
    show p.2.2.length ≤ 488
    omega
def u32R : St → UInt32 × St := mapR (fun n => UInt32.ofNat n.toNat) (numR 4294967295)
def encU (c : UInt32) : List UInt8 := encNum (c.toNat : Int)
theorem u32C : Codec u32R encU (fun _ => True) := by
  refine Codec.map (numC 4294967295 (by decide) (by decide)) _ _ _ (fun c => (c.toNat : Int)) (fun c _ => ⟨by simp, rfl, by omega, by have := c.toNat_lt; omega⟩) (fun n hn => ⟨?_, trivial⟩)
  unfold encU
  congr 1
  rw [UInt32.toNat_ofNat']
  omega
/-- A message's values. -/
abbrev Mv := Int × (List Int × (List En × (Bool × (Int × (List Int × (List UInt32 × (Int × List UInt8)))))))
def mv (m : Ms) (es : List En) (ss : List UInt32) : Mv := (m.kind, [m.frm, m.too, m.term, m.index, m.logT, m.last, m.commit], es, m.ok, m.state, [m.li, m.lt, m.lb], ss, m.part, m.data)
def msgR : St → Mv × St :=
  seqR (numR 8) fun _ => seqR (repR (numR 281474976710655) 7) fun _ => seqR (listR 4 entR) fun _ => seqR flagR fun _ => seqR (numR 3) fun _ => seqR (repR (numR 281474976710655) 3) fun _ => seqR (listR 64 u32R) fun _ => seqR (numR 281474976710655) fun _ => textR 400
def encV (v : Mv) : List UInt8 :=
  encNum v.1 ++ (v.2.1.flatMap encNum ++ ((encNum (v.2.2.1.length : Int) ++ v.2.2.1.flatMap En.enc) ++ (encFlag v.2.2.2.1 ++ (encNum v.2.2.2.2.1 ++ (v.2.2.2.2.2.1.flatMap encNum ++ ((encNum (v.2.2.2.2.2.2.1.length : Int) ++ v.2.2.2.2.2.2.1.flatMap encU) ++ (encNum v.2.2.2.2.2.2.2.1 ++ encText v.2.2.2.2.2.2.2.2)))))))
def okV (v : Mv) : Prop :=
  (0 ≤ v.1 ∧ v.1 ≤ 8) ∧ ((v.2.1.length = 7 ∧ ∀ x ∈ v.2.1, R48 x) ∧ (((v.2.2.1.length : Int) ≤ 4 ∧ ∀ x ∈ v.2.2.1, En.right x) ∧ (True ∧ ((0 ≤ v.2.2.2.2.1 ∧ v.2.2.2.2.1 ≤ 3) ∧ ((v.2.2.2.2.2.1.length = 3 ∧ ∀ x ∈ v.2.2.2.2.2.1, R48 x) ∧ (((v.2.2.2.2.2.2.1.length : Int) ≤ 64 ∧ ∀ x ∈ v.2.2.2.2.2.2.1, True) ∧ (R48 v.2.2.2.2.2.2.2.1 ∧ (v.2.2.2.2.2.2.2.2.length : Int) ≤ 400)))))))
theorem Codec.seqc {α β : Type} {R : St → α × St} {Q : St → β × St} {e1 : α → List UInt8} {e2 : β → List UInt8} {o1 : α → Prop} {o2 : β → Prop} (h : Codec R e1 o1) (hq : Codec Q e2 o2) : Codec (seqR R fun _ => Q) (fun p => e1 p.1 ++ e2 p.2) (fun p => o1 p.1 ∧ o2 p.2) :=
  Codec.seq h (fun _ => hq.bad) (fun _ _ => hq)
theorem msgC : Codec msgR encV okV :=
  Codec.seqc (numC 8 (by decide) (by decide)) (Codec.seqc ((numC 281474976710655 (by decide) (by decide)).rep 7) (Codec.seqc (listC entC 4 (by decide) (by decide)) (Codec.seqc flagC (Codec.seqc (numC 3 (by decide) (by decide)) (Codec.seqc ((numC 281474976710655 (by decide) (by decide)).rep 3) (Codec.seqc (listC u32C 64 (by decide) (by decide)) (Codec.seqc (numC 281474976710655 (by decide) (by decide)) (textC 400 (by decide)))))))))
/-- A message that may be. -/
def RightM (m : Ms) (es : List En) (ss : List UInt32) : Prop :=
  (1 ≤ m.kind ∧ m.kind ≤ 8) ∧ (R48 m.frm ∧ R48 m.too ∧ R48 m.term ∧ R48 m.index ∧ R48 m.logT ∧ R48 m.last ∧ R48 m.commit ∧ R48 m.part ∧ R48 m.li ∧ R48 m.lt ∧ R48 m.lb) ∧ (∀ e ∈ es, e.right) ∧ es.length ≤ 4 ∧ (0 ≤ m.state ∧ m.state ≤ 3) ∧ ss.length ≤ 64 ∧ m.data.length ≤ 400
instance (m : Ms) (es : List En) (ss : List UInt32) : Decidable (RightM m es ss) := inferInstanceAs (Decidable (_ ∧ _ ∧ _ ∧ _ ∧ _ ∧ _ ∧ _))
theorem okV_mv (m : Ms) (es : List En) (ss : List UInt32) : RightM m es ss ↔ okV (mv m es ss) ∧ 1 ≤ m.kind := by
  unfold RightM okV mv
  simp only [List.length_cons, List.length_nil, List.mem_cons, List.not_mem_nil, or_false, forall_eq_or_imp, forall_eq, true_and, implies_true, and_true]
  constructor
  · rintro ⟨h1, ⟨a1, a2, a3, a4, a5, a6, a7, a8, a9, a10, a11⟩, h3, h4, h5, h6, h7⟩
    exact ⟨⟨⟨by omega, h1.2⟩, ⟨a1, a2, a3, a4, a5, a6, a7⟩, ⟨by omega, h3⟩, h5, ⟨a9, a10, a11⟩, by omega, a8, by omega⟩, h1.1⟩
  · rintro ⟨⟨h1, ⟨a1, a2, a3, a4, a5, a6, a7⟩, ⟨h4, h3⟩, h5, ⟨a9, a10, a11⟩, h6, a8, h7⟩, hk⟩
    exact ⟨⟨hk, h1.2⟩, ⟨a1, a2, a3, a4, a5, a6, a7, a8, a9, a10, a11⟩, h3, by omega, h5, by omega, by omega⟩
def encM (m : Ms) (es : List En) (ss : List UInt32) : List UInt8 := encV (mv m es ss)
theorem encV_length {v : Mv} (h : okV v) : (encV v).length ≤ 5000 := by
  obtain ⟨h1, ⟨h2, _⟩, ⟨h3, h3'⟩, _, _, ⟨h6, _⟩, ⟨h7, _⟩, _, h9⟩ := h
  have e1 : ∀ l : List Int, (l.flatMap encNum).length = 6 * l.length := encNums_length
  have e2 : ∀ l : List En, (∀ x ∈ l, En.right x) → (l.flatMap En.enc).length ≤ 502 * l.length := by
    intro l
    induction l with
    | nil => simp
    | cons a l ih =>
      intro hl
      have h1 := ih (fun x hx => hl x (by simp [hx]))
      have h2 := (hl a (by simp)).2.2
      rw [List.flatMap_cons, List.length_append, List.length_cons]
      have : (En.enc a).length ≤ 502 := by
        unfold En.enc
        rw [List.length_append, List.length_append, encNum_length, encNum_length, encText_le2 _ (by omega)]
        omega
      omega
  have e3 : ∀ l : List UInt32, (l.flatMap encU).length = 6 * l.length := by
    intro l
    induction l with
    | nil => rfl
    | cons a l ih => rw [List.flatMap_cons, List.length_append, ih, List.length_cons]; unfold encU; rw [encNum_length]; omega
  unfold encV
  have e4 : (encFlag v.2.2.2.1).length = 1 := rfl
  simp only [List.length_append, encNum_length, e1, e3, e4]
  rw [encText_le2 _ (by omega)]
  have := e2 _ h3'
  omega
end Go.Proofs.Ytaekkkcgoegllaa
