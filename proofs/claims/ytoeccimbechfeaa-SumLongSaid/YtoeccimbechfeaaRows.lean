/-
  No cell of these rows narrows 'for every input' (looked for: loops, veiled, ifaces, maps, wideKeys, modest, calm, conditions, laid).
  DERIVED. THE GIVEN ROWS OF THIS SEAT. 13 by the template 'for every input the law returns true; each argument reads behind the call as it read before'; 0 by the template 'total and deterministic' (their statements: YtoeccimbechfeaaTotals.lean).
  GIVEN WITH THE SEED: the statements are not yours to turn. If you find one false, say at which input.
  Laid BY PROGRAM, IN A SANDBOX (cutbox-rows.mjs): the forced cells as the released guide's own fill.sh prints them over the translation f115b161ee311f18… (all of the seat's roots in one cut). By AI agents, Wed Nov 11 2026. No macro, syntax, notation, axiom, sorry.
-/
import Derived.Test.YtoeccimbechfeaaChecked
import GoSem.Claim
import GoSem.ClaimJoined
import GoSem.ClaimMapViews
import Derived.JoinedTies
import Derived.KernelRfl
namespace Go.Proofs.Ytoeccimbechfeaa
/- THE CELL 'sum', in the pinned program and in every row, IS THE sha256 OF THE DUMP (.gsa) THAT YtoeccimbechfeaaProg.lean LOADS. Nothing in Lean hashes anything: it is a label: what it is worth is what the hold of that sum in a sandbox is worth. -/
noncomputable def Try.pinned : Pinned := { name := "ytoeccimbechfeaa", sum := "f115b161ee311f1888863c42dbea8c3c89eafbebf343d1dc11514d59f8467263", checked := Try.checked }
namespace Rows
def none {H : Type} : Left H := { results := [], args := [] }

/-- 'orchardlaw01.PithOrders': WHATEVER THE INPUT: true; the input reads as it did. -/
def pithOrdersSpec : ChangeSpec := { name := "pithOrders", fn := fun _ => fun
  | [d1, d2] => { results := [.lit (.bool true)], args := [d1, d2] }
  | _ => none }
def pithOrdersRow : OpenClaim := { program := "ytoeccimbechfeaa", sum := "f115b161ee311f1888863c42dbea8c3c89eafbebf343d1dc11514d59f8467263", func := "orchard/orchardlaw01.PithOrders", spec := "pithOrders", apart := false }
def PithOrdersSaid : Prop := pithOrdersRow.holds Try.pinned (OpenSpec.ofChange pithOrdersSpec)

/-- ITS FALSE NEIGHBOUR: 'it returns false'. Refute it at one input. -/
def pithOrdersWrong : ChangeSpec := { name := "pithOrders", fn := fun _ => fun
  | [d1, d2] => { results := [.lit (.bool false)], args := [d1, d2] }
  | _ => none }
def PithOrdersWrongFalsely : Prop := pithOrdersRow.holds Try.pinned (OpenSpec.ofChange pithOrdersWrong)

/-- 'orchardlaw02.SumLong': WHATEVER THE INPUT: true; the input reads as it did. -/
def sumLongSpec : ChangeSpec := { name := "sumLong", fn := fun _ => fun
  | [d] => { results := [.lit (.bool true)], args := [d] }
  | _ => none }
def sumLongRow : OpenClaim := { program := "ytoeccimbechfeaa", sum := "f115b161ee311f1888863c42dbea8c3c89eafbebf343d1dc11514d59f8467263", func := "orchard/orchardlaw02.SumLong", spec := "sumLong", apart := false }
def SumLongSaid : Prop := sumLongRow.holds Try.pinned (OpenSpec.ofChange sumLongSpec)

/-- ITS FALSE NEIGHBOUR: 'it returns false'. Refute it at one input. -/
def sumLongWrong : ChangeSpec := { name := "sumLong", fn := fun _ => fun
  | [d] => { results := [.lit (.bool false)], args := [d] }
  | _ => none }
def SumLongWrongFalsely : Prop := sumLongRow.holds Try.pinned (OpenSpec.ofChange sumLongWrong)

/-- 'orchardlaw02.SumParts': WHATEVER THE INPUT: true; the input reads as it did. -/
def sumPartsSpec : ChangeSpec := { name := "sumParts", fn := fun _ => fun
  | [d1, d2] => { results := [.lit (.bool true)], args := [d1, d2] }
  | _ => none }
def sumPartsRow : OpenClaim := { program := "ytoeccimbechfeaa", sum := "f115b161ee311f1888863c42dbea8c3c89eafbebf343d1dc11514d59f8467263", func := "orchard/orchardlaw02.SumParts", spec := "sumParts", apart := false }
def SumPartsSaid : Prop := sumPartsRow.holds Try.pinned (OpenSpec.ofChange sumPartsSpec)

/-- ITS FALSE NEIGHBOUR: 'it returns false'. Refute it at one input. -/
def sumPartsWrong : ChangeSpec := { name := "sumParts", fn := fun _ => fun
  | [d1, d2] => { results := [.lit (.bool false)], args := [d1, d2] }
  | _ => none }
def SumPartsWrongFalsely : Prop := sumPartsRow.holds Try.pinned (OpenSpec.ofChange sumPartsWrong)

/-- 'orchardlaw02.SumBits': WHATEVER THE INPUT: true; the input reads as it did. -/
def sumBitsSpec : ChangeSpec := { name := "sumBits", fn := fun _ => fun
  | [d1, d2, d3] => { results := [.lit (.bool true)], args := [d1, d2, d3] }
  | _ => none }
def sumBitsRow : OpenClaim := { program := "ytoeccimbechfeaa", sum := "f115b161ee311f1888863c42dbea8c3c89eafbebf343d1dc11514d59f8467263", func := "orchard/orchardlaw02.SumBits", spec := "sumBits", apart := false }
def SumBitsSaid : Prop := sumBitsRow.holds Try.pinned (OpenSpec.ofChange sumBitsSpec)

/-- ITS FALSE NEIGHBOUR: 'it returns false'. Refute it at one input. -/
def sumBitsWrong : ChangeSpec := { name := "sumBits", fn := fun _ => fun
  | [d1, d2, d3] => { results := [.lit (.bool false)], args := [d1, d2, d3] }
  | _ => none }
def SumBitsWrongFalsely : Prop := sumBitsRow.holds Try.pinned (OpenSpec.ofChange sumBitsWrong)

/-- 'orchardlaw02.SumGoes': WHATEVER THE INPUT: true; the input reads as it did. -/
def sumGoesSpec : ChangeSpec := { name := "sumGoes", fn := fun _ => fun
  | [d1, d2, d3] => { results := [.lit (.bool true)], args := [d1, d2, d3] }
  | _ => none }
def sumGoesRow : OpenClaim := { program := "ytoeccimbechfeaa", sum := "f115b161ee311f1888863c42dbea8c3c89eafbebf343d1dc11514d59f8467263", func := "orchard/orchardlaw02.SumGoes", spec := "sumGoes", apart := false }
def SumGoesSaid : Prop := sumGoesRow.holds Try.pinned (OpenSpec.ofChange sumGoesSpec)

/-- ITS FALSE NEIGHBOUR: 'it returns false'. Refute it at one input. -/
def sumGoesWrong : ChangeSpec := { name := "sumGoes", fn := fun _ => fun
  | [d1, d2, d3] => { results := [.lit (.bool false)], args := [d1, d2, d3] }
  | _ => none }
def SumGoesWrongFalsely : Prop := sumGoesRow.holds Try.pinned (OpenSpec.ofChange sumGoesWrong)

/-- 'orchardlaw01.PithJoins': WHATEVER THE INPUT: true; the input reads as it did. -/
def pithJoinsSpec : ChangeSpec := { name := "pithJoins", fn := fun _ => fun
  | [d1, d2, d3] => { results := [.lit (.bool true)], args := [d1, d2, d3] }
  | _ => none }
def pithJoinsRow : OpenClaim := { program := "ytoeccimbechfeaa", sum := "f115b161ee311f1888863c42dbea8c3c89eafbebf343d1dc11514d59f8467263", func := "orchard/orchardlaw01.PithJoins", spec := "pithJoins", unfollowed := true, recurses := true, apart := false }
def PithJoinsSaid : Prop := pithJoinsRow.holds Try.pinned (OpenSpec.ofChange pithJoinsSpec)

/-- ITS FALSE NEIGHBOUR: 'it returns false'. Refute it at one input. -/
def pithJoinsWrong : ChangeSpec := { name := "pithJoins", fn := fun _ => fun
  | [d1, d2, d3] => { results := [.lit (.bool false)], args := [d1, d2, d3] }
  | _ => none }
def PithJoinsWrongFalsely : Prop := pithJoinsRow.holds Try.pinned (OpenSpec.ofChange pithJoinsWrong)

/-- 'orchardlaw02.SumSeals': WHATEVER THE INPUT: true; the input reads as it did. -/
def sumSealsSpec : ChangeSpec := { name := "sumSeals", fn := fun _ => fun
  | [d1, d2, d3] => { results := [.lit (.bool true)], args := [d1, d2, d3] }
  | _ => none }
def sumSealsRow : OpenClaim := { program := "ytoeccimbechfeaa", sum := "f115b161ee311f1888863c42dbea8c3c89eafbebf343d1dc11514d59f8467263", func := "orchard/orchardlaw02.SumSeals", spec := "sumSeals", apart := false }
def SumSealsSaid : Prop := sumSealsRow.holds Try.pinned (OpenSpec.ofChange sumSealsSpec)

/-- ITS FALSE NEIGHBOUR: 'it returns false'. Refute it at one input. -/
def sumSealsWrong : ChangeSpec := { name := "sumSeals", fn := fun _ => fun
  | [d1, d2, d3] => { results := [.lit (.bool false)], args := [d1, d2, d3] }
  | _ => none }
def SumSealsWrongFalsely : Prop := sumSealsRow.holds Try.pinned (OpenSpec.ofChange sumSealsWrong)

/-- 'orchardlaw02.SumOpens': WHATEVER THE INPUT: true; the input reads as it did. -/
def sumOpensSpec : ChangeSpec := { name := "sumOpens", fn := fun _ => fun
  | [d] => { results := [.lit (.bool true)], args := [d] }
  | _ => none }
def sumOpensRow : OpenClaim := { program := "ytoeccimbechfeaa", sum := "f115b161ee311f1888863c42dbea8c3c89eafbebf343d1dc11514d59f8467263", func := "orchard/orchardlaw02.SumOpens", spec := "sumOpens", apart := false }
def SumOpensSaid : Prop := sumOpensRow.holds Try.pinned (OpenSpec.ofChange sumOpensSpec)

/-- ITS FALSE NEIGHBOUR: 'it returns false'. Refute it at one input. -/
def sumOpensWrong : ChangeSpec := { name := "sumOpens", fn := fun _ => fun
  | [d] => { results := [.lit (.bool false)], args := [d] }
  | _ => none }
def SumOpensWrongFalsely : Prop := sumOpensRow.holds Try.pinned (OpenSpec.ofChange sumOpensWrong)

/-- 'orchardlaw01.PithReads': WHATEVER THE INPUT: true; the input reads as it did. -/
def pithReadsSpec : ChangeSpec := { name := "pithReads", fn := fun _ => fun
  | [d1, d2] => { results := [.lit (.bool true)], args := [d1, d2] }
  | _ => none }
def pithReadsRow : OpenClaim := { program := "ytoeccimbechfeaa", sum := "f115b161ee311f1888863c42dbea8c3c89eafbebf343d1dc11514d59f8467263", func := "orchard/orchardlaw01.PithReads", spec := "pithReads", apart := false }
def PithReadsSaid : Prop := pithReadsRow.holds Try.pinned (OpenSpec.ofChange pithReadsSpec)

/-- ITS FALSE NEIGHBOUR: 'it returns false'. Refute it at one input. -/
def pithReadsWrong : ChangeSpec := { name := "pithReads", fn := fun _ => fun
  | [d1, d2] => { results := [.lit (.bool false)], args := [d1, d2] }
  | _ => none }
def PithReadsWrongFalsely : Prop := pithReadsRow.holds Try.pinned (OpenSpec.ofChange pithReadsWrong)

/-- 'orchardlaw01.PithCuts': WHATEVER THE INPUT: true; the input reads as it did. -/
def pithCutsSpec : ChangeSpec := { name := "pithCuts", fn := fun _ => fun
  | [d1, d2, d3] => { results := [.lit (.bool true)], args := [d1, d2, d3] }
  | _ => none }
def pithCutsRow : OpenClaim := { program := "ytoeccimbechfeaa", sum := "f115b161ee311f1888863c42dbea8c3c89eafbebf343d1dc11514d59f8467263", func := "orchard/orchardlaw01.PithCuts", spec := "pithCuts", unfollowed := true, recurses := true, apart := false }
def PithCutsSaid : Prop := pithCutsRow.holds Try.pinned (OpenSpec.ofChange pithCutsSpec)

/-- ITS FALSE NEIGHBOUR: 'it returns false'. Refute it at one input. -/
def pithCutsWrong : ChangeSpec := { name := "pithCuts", fn := fun _ => fun
  | [d1, d2, d3] => { results := [.lit (.bool false)], args := [d1, d2, d3] }
  | _ => none }
def PithCutsWrongFalsely : Prop := pithCutsRow.holds Try.pinned (OpenSpec.ofChange pithCutsWrong)

/-- 'orchardlaw01.PithFails': WHATEVER THE INPUT: true; the input reads as it did. -/
def pithFailsSpec : ChangeSpec := { name := "pithFails", fn := fun _ => fun
  | [d1, d2] => { results := [.lit (.bool true)], args := [d1, d2] }
  | _ => none }
def pithFailsRow : OpenClaim := { program := "ytoeccimbechfeaa", sum := "f115b161ee311f1888863c42dbea8c3c89eafbebf343d1dc11514d59f8467263", func := "orchard/orchardlaw01.PithFails", spec := "pithFails", apart := false }
def PithFailsSaid : Prop := pithFailsRow.holds Try.pinned (OpenSpec.ofChange pithFailsSpec)

/-- ITS FALSE NEIGHBOUR: 'it returns false'. Refute it at one input. -/
def pithFailsWrong : ChangeSpec := { name := "pithFails", fn := fun _ => fun
  | [d1, d2] => { results := [.lit (.bool false)], args := [d1, d2] }
  | _ => none }
def PithFailsWrongFalsely : Prop := pithFailsRow.holds Try.pinned (OpenSpec.ofChange pithFailsWrong)

/-- 'orchardlaw01.PithMosts': WHATEVER THE INPUT: true; the input reads as it did. -/
def pithMostsSpec : ChangeSpec := { name := "pithMosts", fn := fun _ => fun
  | [d1, d2, d3, d4] => { results := [.lit (.bool true)], args := [d1, d2, d3, d4] }
  | _ => none }
def pithMostsRow : OpenClaim := { program := "ytoeccimbechfeaa", sum := "f115b161ee311f1888863c42dbea8c3c89eafbebf343d1dc11514d59f8467263", func := "orchard/orchardlaw01.PithMosts", spec := "pithMosts", apart := false }
def PithMostsSaid : Prop := pithMostsRow.holds Try.pinned (OpenSpec.ofChange pithMostsSpec)

/-- ITS FALSE NEIGHBOUR: 'it returns false'. Refute it at one input. -/
def pithMostsWrong : ChangeSpec := { name := "pithMosts", fn := fun _ => fun
  | [d1, d2, d3, d4] => { results := [.lit (.bool false)], args := [d1, d2, d3, d4] }
  | _ => none }
def PithMostsWrongFalsely : Prop := pithMostsRow.holds Try.pinned (OpenSpec.ofChange pithMostsWrong)

/-- 'orchardlaw01.PithLays': WHATEVER THE INPUT: true; the input reads as it did. -/
def pithLaysSpec : ChangeSpec := { name := "pithLays", fn := fun _ => fun
  | [d] => { results := [.lit (.bool true)], args := [d] }
  | _ => none }
def pithLaysRow : OpenClaim := { program := "ytoeccimbechfeaa", sum := "f115b161ee311f1888863c42dbea8c3c89eafbebf343d1dc11514d59f8467263", func := "orchard/orchardlaw01.PithLays", spec := "pithLays", apart := false }
def PithLaysSaid : Prop := pithLaysRow.holds Try.pinned (OpenSpec.ofChange pithLaysSpec)

/-- ITS FALSE NEIGHBOUR: 'it returns false'. Refute it at one input. -/
def pithLaysWrong : ChangeSpec := { name := "pithLays", fn := fun _ => fun
  | [d] => { results := [.lit (.bool false)], args := [d] }
  | _ => none }
def PithLaysWrongFalsely : Prop := pithLaysRow.holds Try.pinned (OpenSpec.ofChange pithLaysWrong)

/- THE SECOND FORM. 'bulk': how many values and letters a reading holds, each counted each time it is reached (what is shared counts as often as it is met; a slice's spare places count too). A statement '..UptoSaid' is the law's where the arguments, and the package variables that the reading takes, are together of bulk at most 1048576: NARROWER than '..Said'. Prove '..Said' where nothing that the law and all that it calls make is longer than what came in: it says more and counts as full. Else prove '..UptoSaid'. A law counts once. -/
mutual
def uptoBulk {H : Type} : DataW H → Nat
  | .lit (.string bytes) => bytes.length + 1
  | .lit _ => 1
  | .nil => 1
  | .ptr d => uptoBulk d + 1
  | .slice elems spare => uptoBulkAll elems + uptoBulkAll spare + 1
  | .agg parts => uptoBulkAll parts + 1
  | .iface _ d => uptoBulk d + 1
  | .map entries => uptoBulkEntries entries + 1
  | .held _ => 1
def uptoBulkAll {H : Type} : List (DataW H) → Nat
  | [] => 0
  | d :: r => uptoBulk d + uptoBulkAll r
def uptoBulkEntries {H : Type} : List (Lit × DataW H) → Nat
  | [] => 0
  | x :: r => uptoBulkEntry x + uptoBulkEntries r
def uptoBulkEntry {H : Type} : Lit × DataW H → Nat
  | (.string bytes, d) => bytes.length + uptoBulk d + 1
  | (_, d) => uptoBulk d + 1
 end
def uptoSmall : (H : Type) → List (DataW H) → Bool := fun _ ds => decide (uptoBulkAll ds ≤ 1048576)
def OpenSpec.upto (s : _root_.Go.ChangeSpec) : _root_.Go.OpenSpec := { _root_.Go.OpenSpec.ofChange s with cond := some uptoSmall }

/-- 'orchardlaw01.PithOrders', WHERE WHAT IT READS IS OF BULK AT MOST 1048576: true; the input reads as it did. -/
def pithOrdersUptoRow : OpenClaim := { program := "ytoeccimbechfeaa", sum := "f115b161ee311f1888863c42dbea8c3c89eafbebf343d1dc11514d59f8467263", func := "orchard/orchardlaw01.PithOrders", spec := "pithOrders", apart := false, narrowed := true }
def PithOrdersUptoSaid : Prop := pithOrdersUptoRow.holds Try.pinned (OpenSpec.upto pithOrdersSpec)

/-- 'orchardlaw02.SumLong', WHERE WHAT IT READS IS OF BULK AT MOST 1048576: true; the input reads as it did. -/
def sumLongUptoRow : OpenClaim := { program := "ytoeccimbechfeaa", sum := "f115b161ee311f1888863c42dbea8c3c89eafbebf343d1dc11514d59f8467263", func := "orchard/orchardlaw02.SumLong", spec := "sumLong", apart := false, narrowed := true }
def SumLongUptoSaid : Prop := sumLongUptoRow.holds Try.pinned (OpenSpec.upto sumLongSpec)

/-- 'orchardlaw02.SumParts', WHERE WHAT IT READS IS OF BULK AT MOST 1048576: true; the input reads as it did. -/
def sumPartsUptoRow : OpenClaim := { program := "ytoeccimbechfeaa", sum := "f115b161ee311f1888863c42dbea8c3c89eafbebf343d1dc11514d59f8467263", func := "orchard/orchardlaw02.SumParts", spec := "sumParts", apart := false, narrowed := true }
def SumPartsUptoSaid : Prop := sumPartsUptoRow.holds Try.pinned (OpenSpec.upto sumPartsSpec)

/-- 'orchardlaw02.SumBits', WHERE WHAT IT READS IS OF BULK AT MOST 1048576: true; the input reads as it did. -/
def sumBitsUptoRow : OpenClaim := { program := "ytoeccimbechfeaa", sum := "f115b161ee311f1888863c42dbea8c3c89eafbebf343d1dc11514d59f8467263", func := "orchard/orchardlaw02.SumBits", spec := "sumBits", apart := false, narrowed := true }
def SumBitsUptoSaid : Prop := sumBitsUptoRow.holds Try.pinned (OpenSpec.upto sumBitsSpec)

/-- 'orchardlaw02.SumGoes', WHERE WHAT IT READS IS OF BULK AT MOST 1048576: true; the input reads as it did. -/
def sumGoesUptoRow : OpenClaim := { program := "ytoeccimbechfeaa", sum := "f115b161ee311f1888863c42dbea8c3c89eafbebf343d1dc11514d59f8467263", func := "orchard/orchardlaw02.SumGoes", spec := "sumGoes", apart := false, narrowed := true }
def SumGoesUptoSaid : Prop := sumGoesUptoRow.holds Try.pinned (OpenSpec.upto sumGoesSpec)

/-- 'orchardlaw01.PithJoins', WHERE WHAT IT READS IS OF BULK AT MOST 1048576: true; the input reads as it did. -/
def pithJoinsUptoRow : OpenClaim := { program := "ytoeccimbechfeaa", sum := "f115b161ee311f1888863c42dbea8c3c89eafbebf343d1dc11514d59f8467263", func := "orchard/orchardlaw01.PithJoins", spec := "pithJoins", unfollowed := true, recurses := true, apart := false, narrowed := true }
def PithJoinsUptoSaid : Prop := pithJoinsUptoRow.holds Try.pinned (OpenSpec.upto pithJoinsSpec)

/-- 'orchardlaw02.SumSeals', WHERE WHAT IT READS IS OF BULK AT MOST 1048576: true; the input reads as it did. -/
def sumSealsUptoRow : OpenClaim := { program := "ytoeccimbechfeaa", sum := "f115b161ee311f1888863c42dbea8c3c89eafbebf343d1dc11514d59f8467263", func := "orchard/orchardlaw02.SumSeals", spec := "sumSeals", apart := false, narrowed := true }
def SumSealsUptoSaid : Prop := sumSealsUptoRow.holds Try.pinned (OpenSpec.upto sumSealsSpec)

/-- 'orchardlaw02.SumOpens', WHERE WHAT IT READS IS OF BULK AT MOST 1048576: true; the input reads as it did. -/
def sumOpensUptoRow : OpenClaim := { program := "ytoeccimbechfeaa", sum := "f115b161ee311f1888863c42dbea8c3c89eafbebf343d1dc11514d59f8467263", func := "orchard/orchardlaw02.SumOpens", spec := "sumOpens", apart := false, narrowed := true }
def SumOpensUptoSaid : Prop := sumOpensUptoRow.holds Try.pinned (OpenSpec.upto sumOpensSpec)

/-- 'orchardlaw01.PithReads', WHERE WHAT IT READS IS OF BULK AT MOST 1048576: true; the input reads as it did. -/
def pithReadsUptoRow : OpenClaim := { program := "ytoeccimbechfeaa", sum := "f115b161ee311f1888863c42dbea8c3c89eafbebf343d1dc11514d59f8467263", func := "orchard/orchardlaw01.PithReads", spec := "pithReads", apart := false, narrowed := true }
def PithReadsUptoSaid : Prop := pithReadsUptoRow.holds Try.pinned (OpenSpec.upto pithReadsSpec)

/-- 'orchardlaw01.PithCuts', WHERE WHAT IT READS IS OF BULK AT MOST 1048576: true; the input reads as it did. -/
def pithCutsUptoRow : OpenClaim := { program := "ytoeccimbechfeaa", sum := "f115b161ee311f1888863c42dbea8c3c89eafbebf343d1dc11514d59f8467263", func := "orchard/orchardlaw01.PithCuts", spec := "pithCuts", unfollowed := true, recurses := true, apart := false, narrowed := true }
def PithCutsUptoSaid : Prop := pithCutsUptoRow.holds Try.pinned (OpenSpec.upto pithCutsSpec)

/-- 'orchardlaw01.PithFails', WHERE WHAT IT READS IS OF BULK AT MOST 1048576: true; the input reads as it did. -/
def pithFailsUptoRow : OpenClaim := { program := "ytoeccimbechfeaa", sum := "f115b161ee311f1888863c42dbea8c3c89eafbebf343d1dc11514d59f8467263", func := "orchard/orchardlaw01.PithFails", spec := "pithFails", apart := false, narrowed := true }
def PithFailsUptoSaid : Prop := pithFailsUptoRow.holds Try.pinned (OpenSpec.upto pithFailsSpec)

/-- 'orchardlaw01.PithMosts', WHERE WHAT IT READS IS OF BULK AT MOST 1048576: true; the input reads as it did. -/
def pithMostsUptoRow : OpenClaim := { program := "ytoeccimbechfeaa", sum := "f115b161ee311f1888863c42dbea8c3c89eafbebf343d1dc11514d59f8467263", func := "orchard/orchardlaw01.PithMosts", spec := "pithMosts", apart := false, narrowed := true }
def PithMostsUptoSaid : Prop := pithMostsUptoRow.holds Try.pinned (OpenSpec.upto pithMostsSpec)

/-- 'orchardlaw01.PithLays', WHERE WHAT IT READS IS OF BULK AT MOST 1048576: true; the input reads as it did. -/
def pithLaysUptoRow : OpenClaim := { program := "ytoeccimbechfeaa", sum := "f115b161ee311f1888863c42dbea8c3c89eafbebf343d1dc11514d59f8467263", func := "orchard/orchardlaw01.PithLays", spec := "pithLays", apart := false, narrowed := true }
def PithLaysUptoSaid : Prop := pithLaysUptoRow.holds Try.pinned (OpenSpec.upto pithLaysSpec)

end Rows
end Go.Proofs.Ytoeccimbechfeaa
