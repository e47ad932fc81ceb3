/-
  No cell of these rows narrows 'for every input' (looked for: loops, veiled, ifaces, maps, wideKeys, modest, calm, conditions, laid).
  DERIVED. THE GIVEN ROWS OF THIS SEAT. 14 by the template 'for every input the law returns true; each argument reads behind the call as it read before'; 0 by the template 'total and deterministic' (their statements: YtpnfgkgloioddaaTotals.lean).
  GIVEN WITH THE SEED: the statements are not yours to turn. If you find one false, say at which input.
  Laid BY PROGRAM, IN A SANDBOX (cutbox-rows.mjs): the forced cells as the released guide's own fill.sh prints them over the translation 18a24d34fc242a53… (all of the seat's roots in one cut). By AI agents, Wed Nov 11 2026. No macro, syntax, notation, axiom, sorry.
-/
import Derived.Test.YtpnfgkgloioddaaChecked
import GoSem.Claim
import GoSem.ClaimJoined
import GoSem.ClaimMapViews
import Derived.JoinedTies
import Derived.KernelRfl
namespace Go.Proofs.Ytpnfgkgloioddaa
/- THE CELL 'sum', in the pinned program and in every row, IS THE sha256 OF THE DUMP (.gsa) THAT YtpnfgkgloioddaaProg.lean LOADS. Nothing in Lean hashes anything: it is a label: what it is worth is what the hold of that sum in a sandbox is worth. -/
noncomputable def Try.pinned : Pinned := { name := "ytpnfgkgloioddaa", sum := "18a24d34fc242a5314413c9e59ad610d225f69cb57d695326adf2bc3cf5dfc7c", checked := Try.checked }
namespace Rows
def none {H : Type} : Left H := { results := [], args := [] }

/-- 'orchardlaw03.DevLast': WHATEVER THE INPUT: true; the input reads as it did. -/
def devLastSpec : ChangeSpec := { name := "devLast", fn := fun _ => fun
  | [d1, d2] => { results := [.lit (.bool true)], args := [d1, d2] }
  | _ => none }
def devLastRow : OpenClaim := { program := "ytpnfgkgloioddaa", sum := "18a24d34fc242a5314413c9e59ad610d225f69cb57d695326adf2bc3cf5dfc7c", func := "orchard/orchardlaw03.DevLast", spec := "devLast", inPlace := ["maps.clone"], unfollowed := true, recurses := true, apart := false }
def DevLastSaid : Prop := devLastRow.holds Try.pinned (OpenSpec.ofChange devLastSpec)

/-- ITS FALSE NEIGHBOUR: 'it returns false'. Refute it at one input. -/
def devLastWrong : ChangeSpec := { name := "devLast", fn := fun _ => fun
  | [d1, d2] => { results := [.lit (.bool false)], args := [d1, d2] }
  | _ => none }
def DevLastWrongFalsely : Prop := devLastRow.holds Try.pinned (OpenSpec.ofChange devLastWrong)

/-- 'orchardlaw03.DevFalls': WHATEVER THE INPUT: true; the input reads as it did. -/
def devFallsSpec : ChangeSpec := { name := "devFalls", fn := fun _ => fun
  | [d1, d2] => { results := [.lit (.bool true)], args := [d1, d2] }
  | _ => none }
def devFallsRow : OpenClaim := { program := "ytpnfgkgloioddaa", sum := "18a24d34fc242a5314413c9e59ad610d225f69cb57d695326adf2bc3cf5dfc7c", func := "orchard/orchardlaw03.DevFalls", spec := "devFalls", inPlace := ["maps.clone"], unfollowed := true, recurses := true, apart := false }
def DevFallsSaid : Prop := devFallsRow.holds Try.pinned (OpenSpec.ofChange devFallsSpec)

/-- ITS FALSE NEIGHBOUR: 'it returns false'. Refute it at one input. -/
def devFallsWrong : ChangeSpec := { name := "devFalls", fn := fun _ => fun
  | [d1, d2] => { results := [.lit (.bool false)], args := [d1, d2] }
  | _ => none }
def DevFallsWrongFalsely : Prop := devFallsRow.holds Try.pinned (OpenSpec.ofChange devFallsWrong)

/-- 'orchardlaw03.DevFlushes': WHATEVER THE INPUT: true; the input reads as it did. -/
def devFlushesSpec : ChangeSpec := { name := "devFlushes", fn := fun _ => fun
  | [d1, d2, d3] => { results := [.lit (.bool true)], args := [d1, d2, d3] }
  | _ => none }
def devFlushesRow : OpenClaim := { program := "ytpnfgkgloioddaa", sum := "18a24d34fc242a5314413c9e59ad610d225f69cb57d695326adf2bc3cf5dfc7c", func := "orchard/orchardlaw03.DevFlushes", spec := "devFlushes", inPlace := ["maps.clone"], unfollowed := true, recurses := true, apart := false }
def DevFlushesSaid : Prop := devFlushesRow.holds Try.pinned (OpenSpec.ofChange devFlushesSpec)

/-- ITS FALSE NEIGHBOUR: 'it returns false'. Refute it at one input. -/
def devFlushesWrong : ChangeSpec := { name := "devFlushes", fn := fun _ => fun
  | [d1, d2, d3] => { results := [.lit (.bool false)], args := [d1, d2, d3] }
  | _ => none }
def DevFlushesWrongFalsely : Prop := devFlushesRow.holds Try.pinned (OpenSpec.ofChange devFlushesWrong)

/-- 'orchardlaw04.SlotPuts': WHATEVER THE INPUT: true; the input reads as it did. -/
def slotPutsSpec : ChangeSpec := { name := "slotPuts", fn := fun _ => fun
  | [d] => { results := [.lit (.bool true)], args := [d] }
  | _ => none }
def slotPutsRow : OpenClaim := { program := "ytpnfgkgloioddaa", sum := "18a24d34fc242a5314413c9e59ad610d225f69cb57d695326adf2bc3cf5dfc7c", func := "orchard/orchardlaw04.SlotPuts", spec := "slotPuts", apart := false }
def SlotPutsSaid : Prop := slotPutsRow.holds Try.pinned (OpenSpec.ofChange slotPutsSpec)

/-- ITS FALSE NEIGHBOUR: 'it returns false'. Refute it at one input. -/
def slotPutsWrong : ChangeSpec := { name := "slotPuts", fn := fun _ => fun
  | [d] => { results := [.lit (.bool false)], args := [d] }
  | _ => none }
def SlotPutsWrongFalsely : Prop := slotPutsRow.holds Try.pinned (OpenSpec.ofChange slotPutsWrong)

/-- 'orchardlaw04.SlotGets': WHATEVER THE INPUT: true; the input reads as it did. -/
def slotGetsSpec : ChangeSpec := { name := "slotGets", fn := fun _ => fun
  | [d1, d2, d3, d4] => { results := [.lit (.bool true)], args := [d1, d2, d3, d4] }
  | _ => none }
def slotGetsRow : OpenClaim := { program := "ytpnfgkgloioddaa", sum := "18a24d34fc242a5314413c9e59ad610d225f69cb57d695326adf2bc3cf5dfc7c", func := "orchard/orchardlaw04.SlotGets", spec := "slotGets", apart := false }
def SlotGetsSaid : Prop := slotGetsRow.holds Try.pinned (OpenSpec.ofChange slotGetsSpec)

/-- ITS FALSE NEIGHBOUR: 'it returns false'. Refute it at one input. -/
def slotGetsWrong : ChangeSpec := { name := "slotGets", fn := fun _ => fun
  | [d1, d2, d3, d4] => { results := [.lit (.bool false)], args := [d1, d2, d3, d4] }
  | _ => none }
def SlotGetsWrongFalsely : Prop := slotGetsRow.holds Try.pinned (OpenSpec.ofChange slotGetsWrong)

/-- 'orchardlaw04.SlotApart': WHATEVER THE INPUT: true; the input reads as it did. -/
def slotApartSpec : ChangeSpec := { name := "slotApart", fn := fun _ => fun
  | [d1, d2] => { results := [.lit (.bool true)], args := [d1, d2] }
  | _ => none }
def slotApartRow : OpenClaim := { program := "ytpnfgkgloioddaa", sum := "18a24d34fc242a5314413c9e59ad610d225f69cb57d695326adf2bc3cf5dfc7c", func := "orchard/orchardlaw04.SlotApart", spec := "slotApart", apart := false }
def SlotApartSaid : Prop := slotApartRow.holds Try.pinned (OpenSpec.ofChange slotApartSpec)

/-- ITS FALSE NEIGHBOUR: 'it returns false'. Refute it at one input. -/
def slotApartWrong : ChangeSpec := { name := "slotApart", fn := fun _ => fun
  | [d1, d2] => { results := [.lit (.bool false)], args := [d1, d2] }
  | _ => none }
def SlotApartWrongFalsely : Prop := slotApartRow.holds Try.pinned (OpenSpec.ofChange slotApartWrong)

/-- 'orchardlaw03.DevActs': WHATEVER THE INPUT: true; the input reads as it did. -/
def devActsSpec : ChangeSpec := { name := "devActs", fn := fun _ => fun
  | [d1, d2] => { results := [.lit (.bool true)], args := [d1, d2] }
  | _ => none }
def devActsRow : OpenClaim := { program := "ytpnfgkgloioddaa", sum := "18a24d34fc242a5314413c9e59ad610d225f69cb57d695326adf2bc3cf5dfc7c", func := "orchard/orchardlaw03.DevActs", spec := "devActs", inPlace := ["maps.clone"], unfollowed := true, recurses := true, apart := false }
def DevActsSaid : Prop := devActsRow.holds Try.pinned (OpenSpec.ofChange devActsSpec)

/-- ITS FALSE NEIGHBOUR: 'it returns false'. Refute it at one input. -/
def devActsWrong : ChangeSpec := { name := "devActs", fn := fun _ => fun
  | [d1, d2] => { results := [.lit (.bool false)], args := [d1, d2] }
  | _ => none }
def DevActsWrongFalsely : Prop := devActsRow.holds Try.pinned (OpenSpec.ofChange devActsWrong)

/-- 'orchardlaw03.DevCrashes': WHATEVER THE INPUT: true; the input reads as it did. -/
def devCrashesSpec : ChangeSpec := { name := "devCrashes", fn := fun _ => fun
  | [d1, d2, d3, d4, d5] => { results := [.lit (.bool true)], args := [d1, d2, d3, d4, d5] }
  | _ => none }
def devCrashesRow : OpenClaim := { program := "ytpnfgkgloioddaa", sum := "18a24d34fc242a5314413c9e59ad610d225f69cb57d695326adf2bc3cf5dfc7c", func := "orchard/orchardlaw03.DevCrashes", spec := "devCrashes", inPlace := ["maps.clone"], unfollowed := true, recurses := true, apart := false }
def DevCrashesSaid : Prop := devCrashesRow.holds Try.pinned (OpenSpec.ofChange devCrashesSpec)

/-- ITS FALSE NEIGHBOUR: 'it returns false'. Refute it at one input. -/
def devCrashesWrong : ChangeSpec := { name := "devCrashes", fn := fun _ => fun
  | [d1, d2, d3, d4, d5] => { results := [.lit (.bool false)], args := [d1, d2, d3, d4, d5] }
  | _ => none }
def DevCrashesWrongFalsely : Prop := devCrashesRow.holds Try.pinned (OpenSpec.ofChange devCrashesWrong)

/-- 'orchardlaw04.SlotBlocks': WHATEVER THE INPUT: true; the input reads as it did. -/
def slotBlocksSpec : ChangeSpec := { name := "slotBlocks", fn := fun _ => fun
  | [d1, d2, d3, d4, d5] => { results := [.lit (.bool true)], args := [d1, d2, d3, d4, d5] }
  | _ => none }
def slotBlocksRow : OpenClaim := { program := "ytpnfgkgloioddaa", sum := "18a24d34fc242a5314413c9e59ad610d225f69cb57d695326adf2bc3cf5dfc7c", func := "orchard/orchardlaw04.SlotBlocks", spec := "slotBlocks", unfollowed := true, recurses := true, apart := false }
def SlotBlocksSaid : Prop := slotBlocksRow.holds Try.pinned (OpenSpec.ofChange slotBlocksSpec)

/-- ITS FALSE NEIGHBOUR: 'it returns false'. Refute it at one input. -/
def slotBlocksWrong : ChangeSpec := { name := "slotBlocks", fn := fun _ => fun
  | [d1, d2, d3, d4, d5] => { results := [.lit (.bool false)], args := [d1, d2, d3, d4, d5] }
  | _ => none }
def SlotBlocksWrongFalsely : Prop := slotBlocksRow.holds Try.pinned (OpenSpec.ofChange slotBlocksWrong)

/-- 'orchardlaw04.SlotTorn': WHATEVER THE INPUT: true; the input reads as it did. -/
def slotTornSpec : ChangeSpec := { name := "slotTorn", fn := fun _ => fun
  | [d1, d2, d3, d4] => { results := [.lit (.bool true)], args := [d1, d2, d3, d4] }
  | _ => none }
def slotTornRow : OpenClaim := { program := "ytpnfgkgloioddaa", sum := "18a24d34fc242a5314413c9e59ad610d225f69cb57d695326adf2bc3cf5dfc7c", func := "orchard/orchardlaw04.SlotTorn", spec := "slotTorn", inPlace := ["maps.clone"], unfollowed := true, recurses := true, apart := false }
def SlotTornSaid : Prop := slotTornRow.holds Try.pinned (OpenSpec.ofChange slotTornSpec)

/-- ITS FALSE NEIGHBOUR: 'it returns false'. Refute it at one input. -/
def slotTornWrong : ChangeSpec := { name := "slotTorn", fn := fun _ => fun
  | [d1, d2, d3, d4] => { results := [.lit (.bool false)], args := [d1, d2, d3, d4] }
  | _ => none }
def SlotTornWrongFalsely : Prop := slotTornRow.holds Try.pinned (OpenSpec.ofChange slotTornWrong)

/-- 'orchardlaw05.HeadCopies': WHATEVER THE INPUT: true; the input reads as it did. -/
def headCopiesSpec : ChangeSpec := { name := "headCopies", fn := fun _ => fun
  | [d1, d2] => { results := [.lit (.bool true)], args := [d1, d2] }
  | _ => none }
def headCopiesRow : OpenClaim := { program := "ytpnfgkgloioddaa", sum := "18a24d34fc242a5314413c9e59ad610d225f69cb57d695326adf2bc3cf5dfc7c", func := "orchard/orchardlaw05.HeadCopies", spec := "headCopies", unfollowed := true, recurses := true, apart := false }
def HeadCopiesSaid : Prop := headCopiesRow.holds Try.pinned (OpenSpec.ofChange headCopiesSpec)

/-- ITS FALSE NEIGHBOUR: 'it returns false'. Refute it at one input. -/
def headCopiesWrong : ChangeSpec := { name := "headCopies", fn := fun _ => fun
  | [d1, d2] => { results := [.lit (.bool false)], args := [d1, d2] }
  | _ => none }
def HeadCopiesWrongFalsely : Prop := headCopiesRow.holds Try.pinned (OpenSpec.ofChange headCopiesWrong)

/-- 'orchardlaw05.HeadFew': WHATEVER THE INPUT: true; the input reads as it did. -/
def headFewSpec : ChangeSpec := { name := "headFew", fn := fun _ => fun
  | [d1, d2] => { results := [.lit (.bool true)], args := [d1, d2] }
  | _ => none }
def headFewRow : OpenClaim := { program := "ytpnfgkgloioddaa", sum := "18a24d34fc242a5314413c9e59ad610d225f69cb57d695326adf2bc3cf5dfc7c", func := "orchard/orchardlaw05.HeadFew", spec := "headFew", unfollowed := true, recurses := true, apart := false }
def HeadFewSaid : Prop := headFewRow.holds Try.pinned (OpenSpec.ofChange headFewSpec)

/-- ITS FALSE NEIGHBOUR: 'it returns false'. Refute it at one input. -/
def headFewWrong : ChangeSpec := { name := "headFew", fn := fun _ => fun
  | [d1, d2] => { results := [.lit (.bool false)], args := [d1, d2] }
  | _ => none }
def HeadFewWrongFalsely : Prop := headFewRow.holds Try.pinned (OpenSpec.ofChange headFewWrong)

/-- 'orchardlaw05.HeadFaults': WHATEVER THE INPUT: true; the input reads as it did. -/
def headFaultsSpec : ChangeSpec := { name := "headFaults", fn := fun _ => fun
  | [d1, d2, d3, d4, d5] => { results := [.lit (.bool true)], args := [d1, d2, d3, d4, d5] }
  | _ => none }
def headFaultsRow : OpenClaim := { program := "ytpnfgkgloioddaa", sum := "18a24d34fc242a5314413c9e59ad610d225f69cb57d695326adf2bc3cf5dfc7c", func := "orchard/orchardlaw05.HeadFaults", spec := "headFaults", unfollowed := true, recurses := true, apart := false }
def HeadFaultsSaid : Prop := headFaultsRow.holds Try.pinned (OpenSpec.ofChange headFaultsSpec)

/-- ITS FALSE NEIGHBOUR: 'it returns false'. Refute it at one input. -/
def headFaultsWrong : ChangeSpec := { name := "headFaults", fn := fun _ => fun
  | [d1, d2, d3, d4, d5] => { results := [.lit (.bool false)], args := [d1, d2, d3, d4, d5] }
  | _ => none }
def HeadFaultsWrongFalsely : Prop := headFaultsRow.holds Try.pinned (OpenSpec.ofChange headFaultsWrong)

/-- 'orchardlaw05.HeadAgain': WHATEVER THE INPUT: true; the input reads as it did. -/
def headAgainSpec : ChangeSpec := { name := "headAgain", fn := fun _ => fun
  | [d1, d2, d3, d4, d5] => { results := [.lit (.bool true)], args := [d1, d2, d3, d4, d5] }
  | _ => none }
def headAgainRow : OpenClaim := { program := "ytpnfgkgloioddaa", sum := "18a24d34fc242a5314413c9e59ad610d225f69cb57d695326adf2bc3cf5dfc7c", func := "orchard/orchardlaw05.HeadAgain", spec := "headAgain", inPlace := ["maps.clone"], unfollowed := true, recurses := true, apart := false }
def HeadAgainSaid : Prop := headAgainRow.holds Try.pinned (OpenSpec.ofChange headAgainSpec)

/-- ITS FALSE NEIGHBOUR: 'it returns false'. Refute it at one input. -/
def headAgainWrong : ChangeSpec := { name := "headAgain", fn := fun _ => fun
  | [d1, d2, d3, d4, d5] => { results := [.lit (.bool false)], args := [d1, d2, d3, d4, d5] }
  | _ => none }
def HeadAgainWrongFalsely : Prop := headAgainRow.holds Try.pinned (OpenSpec.ofChange headAgainWrong)

/- THE SECOND FORM. 'bulk': how many values and letters a reading holds, each counted each time it is reached (what is shared counts as often as it is met; a slice's spare places count too). A statement '..UptoSaid' is the law's where the arguments, and the package variables that the reading takes, are together of bulk at most 1048576: NARROWER than '..Said'. Prove '..Said' where nothing that the law and all that it calls make is longer than what came in: it says more and counts as full. Else prove '..UptoSaid'. A law counts once. -/
mutual
def uptoBulk {H : Type} : DataW H → Nat
  | .lit (.string bytes) => bytes.length + 1
  | .lit _ => 1
  | .nil => 1
  | .ptr d => uptoBulk d + 1
  | .slice elems spare => uptoBulkAll elems + uptoBulkAll spare + 1
  | .agg parts => uptoBulkAll parts + 1
  | .iface _ d => uptoBulk d + 1
  | .map entries => uptoBulkEntries entries + 1
  | .held _ => 1
def uptoBulkAll {H : Type} : List (DataW H) → Nat
  | [] => 0
  | d :: r => uptoBulk d + uptoBulkAll r
def uptoBulkEntries {H : Type} : List (Lit × DataW H) → Nat
  | [] => 0
  | x :: r => uptoBulkEntry x + uptoBulkEntries r
def uptoBulkEntry {H : Type} : Lit × DataW H → Nat
  | (.string bytes, d) => bytes.length + uptoBulk d + 1
  | (_, d) => uptoBulk d + 1
 end
def uptoSmall : (H : Type) → List (DataW H) → Bool := fun _ ds => decide (uptoBulkAll ds ≤ 1048576)
def OpenSpec.upto (s : _root_.Go.ChangeSpec) : _root_.Go.OpenSpec := { _root_.Go.OpenSpec.ofChange s with cond := some uptoSmall }

/-- 'orchardlaw03.DevLast', WHERE WHAT IT READS IS OF BULK AT MOST 1048576: true; the input reads as it did. -/
def devLastUptoRow : OpenClaim := { program := "ytpnfgkgloioddaa", sum := "18a24d34fc242a5314413c9e59ad610d225f69cb57d695326adf2bc3cf5dfc7c", func := "orchard/orchardlaw03.DevLast", spec := "devLast", inPlace := ["maps.clone"], unfollowed := true, recurses := true, apart := false, narrowed := true }
def DevLastUptoSaid : Prop := devLastUptoRow.holds Try.pinned (OpenSpec.upto devLastSpec)

/-- 'orchardlaw03.DevFalls', WHERE WHAT IT READS IS OF BULK AT MOST 1048576: true; the input reads as it did. -/
def devFallsUptoRow : OpenClaim := { program := "ytpnfgkgloioddaa", sum := "18a24d34fc242a5314413c9e59ad610d225f69cb57d695326adf2bc3cf5dfc7c", func := "orchard/orchardlaw03.DevFalls", spec := "devFalls", inPlace := ["maps.clone"], unfollowed := true, recurses := true, apart := false, narrowed := true }
def DevFallsUptoSaid : Prop := devFallsUptoRow.holds Try.pinned (OpenSpec.upto devFallsSpec)

/-- 'orchardlaw03.DevFlushes', WHERE WHAT IT READS IS OF BULK AT MOST 1048576: true; the input reads as it did. -/
def devFlushesUptoRow : OpenClaim := { program := "ytpnfgkgloioddaa", sum := "18a24d34fc242a5314413c9e59ad610d225f69cb57d695326adf2bc3cf5dfc7c", func := "orchard/orchardlaw03.DevFlushes", spec := "devFlushes", inPlace := ["maps.clone"], unfollowed := true, recurses := true, apart := false, narrowed := true }
def DevFlushesUptoSaid : Prop := devFlushesUptoRow.holds Try.pinned (OpenSpec.upto devFlushesSpec)

/-- 'orchardlaw04.SlotPuts', WHERE WHAT IT READS IS OF BULK AT MOST 1048576: true; the input reads as it did. -/
def slotPutsUptoRow : OpenClaim := { program := "ytpnfgkgloioddaa", sum := "18a24d34fc242a5314413c9e59ad610d225f69cb57d695326adf2bc3cf5dfc7c", func := "orchard/orchardlaw04.SlotPuts", spec := "slotPuts", apart := false, narrowed := true }
def SlotPutsUptoSaid : Prop := slotPutsUptoRow.holds Try.pinned (OpenSpec.upto slotPutsSpec)

/-- 'orchardlaw04.SlotGets', WHERE WHAT IT READS IS OF BULK AT MOST 1048576: true; the input reads as it did. -/
def slotGetsUptoRow : OpenClaim := { program := "ytpnfgkgloioddaa", sum := "18a24d34fc242a5314413c9e59ad610d225f69cb57d695326adf2bc3cf5dfc7c", func := "orchard/orchardlaw04.SlotGets", spec := "slotGets", apart := false, narrowed := true }
def SlotGetsUptoSaid : Prop := slotGetsUptoRow.holds Try.pinned (OpenSpec.upto slotGetsSpec)

/-- 'orchardlaw04.SlotApart', WHERE WHAT IT READS IS OF BULK AT MOST 1048576: true; the input reads as it did. -/
def slotApartUptoRow : OpenClaim := { program := "ytpnfgkgloioddaa", sum := "18a24d34fc242a5314413c9e59ad610d225f69cb57d695326adf2bc3cf5dfc7c", func := "orchard/orchardlaw04.SlotApart", spec := "slotApart", apart := false, narrowed := true }
def SlotApartUptoSaid : Prop := slotApartUptoRow.holds Try.pinned (OpenSpec.upto slotApartSpec)

/-- 'orchardlaw03.DevActs', WHERE WHAT IT READS IS OF BULK AT MOST 1048576: true; the input reads as it did. -/
def devActsUptoRow : OpenClaim := { program := "ytpnfgkgloioddaa", sum := "18a24d34fc242a5314413c9e59ad610d225f69cb57d695326adf2bc3cf5dfc7c", func := "orchard/orchardlaw03.DevActs", spec := "devActs", inPlace := ["maps.clone"], unfollowed := true, recurses := true, apart := false, narrowed := true }
def DevActsUptoSaid : Prop := devActsUptoRow.holds Try.pinned (OpenSpec.upto devActsSpec)

/-- 'orchardlaw03.DevCrashes', WHERE WHAT IT READS IS OF BULK AT MOST 1048576: true; the input reads as it did. -/
def devCrashesUptoRow : OpenClaim := { program := "ytpnfgkgloioddaa", sum := "18a24d34fc242a5314413c9e59ad610d225f69cb57d695326adf2bc3cf5dfc7c", func := "orchard/orchardlaw03.DevCrashes", spec := "devCrashes", inPlace := ["maps.clone"], unfollowed := true, recurses := true, apart := false, narrowed := true }
def DevCrashesUptoSaid : Prop := devCrashesUptoRow.holds Try.pinned (OpenSpec.upto devCrashesSpec)

/-- 'orchardlaw04.SlotBlocks', WHERE WHAT IT READS IS OF BULK AT MOST 1048576: true; the input reads as it did. -/
def slotBlocksUptoRow : OpenClaim := { program := "ytpnfgkgloioddaa", sum := "18a24d34fc242a5314413c9e59ad610d225f69cb57d695326adf2bc3cf5dfc7c", func := "orchard/orchardlaw04.SlotBlocks", spec := "slotBlocks", unfollowed := true, recurses := true, apart := false, narrowed := true }
def SlotBlocksUptoSaid : Prop := slotBlocksUptoRow.holds Try.pinned (OpenSpec.upto slotBlocksSpec)

/-- 'orchardlaw04.SlotTorn', WHERE WHAT IT READS IS OF BULK AT MOST 1048576: true; the input reads as it did. -/
def slotTornUptoRow : OpenClaim := { program := "ytpnfgkgloioddaa", sum := "18a24d34fc242a5314413c9e59ad610d225f69cb57d695326adf2bc3cf5dfc7c", func := "orchard/orchardlaw04.SlotTorn", spec := "slotTorn", inPlace := ["maps.clone"], unfollowed := true, recurses := true, apart := false, narrowed := true }
def SlotTornUptoSaid : Prop := slotTornUptoRow.holds Try.pinned (OpenSpec.upto slotTornSpec)

/-- 'orchardlaw05.HeadCopies', WHERE WHAT IT READS IS OF BULK AT MOST 1048576: true; the input reads as it did. -/
def headCopiesUptoRow : OpenClaim := { program := "ytpnfgkgloioddaa", sum := "18a24d34fc242a5314413c9e59ad610d225f69cb57d695326adf2bc3cf5dfc7c", func := "orchard/orchardlaw05.HeadCopies", spec := "headCopies", unfollowed := true, recurses := true, apart := false, narrowed := true }
def HeadCopiesUptoSaid : Prop := headCopiesUptoRow.holds Try.pinned (OpenSpec.upto headCopiesSpec)

/-- 'orchardlaw05.HeadFew', WHERE WHAT IT READS IS OF BULK AT MOST 1048576: true; the input reads as it did. -/
def headFewUptoRow : OpenClaim := { program := "ytpnfgkgloioddaa", sum := "18a24d34fc242a5314413c9e59ad610d225f69cb57d695326adf2bc3cf5dfc7c", func := "orchard/orchardlaw05.HeadFew", spec := "headFew", unfollowed := true, recurses := true, apart := false, narrowed := true }
def HeadFewUptoSaid : Prop := headFewUptoRow.holds Try.pinned (OpenSpec.upto headFewSpec)

/-- 'orchardlaw05.HeadFaults', WHERE WHAT IT READS IS OF BULK AT MOST 1048576: true; the input reads as it did. -/
def headFaultsUptoRow : OpenClaim := { program := "ytpnfgkgloioddaa", sum := "18a24d34fc242a5314413c9e59ad610d225f69cb57d695326adf2bc3cf5dfc7c", func := "orchard/orchardlaw05.HeadFaults", spec := "headFaults", unfollowed := true, recurses := true, apart := false, narrowed := true }
def HeadFaultsUptoSaid : Prop := headFaultsUptoRow.holds Try.pinned (OpenSpec.upto headFaultsSpec)

/-- 'orchardlaw05.HeadAgain', WHERE WHAT IT READS IS OF BULK AT MOST 1048576: true; the input reads as it did. -/
def headAgainUptoRow : OpenClaim := { program := "ytpnfgkgloioddaa", sum := "18a24d34fc242a5314413c9e59ad610d225f69cb57d695326adf2bc3cf5dfc7c", func := "orchard/orchardlaw05.HeadAgain", spec := "headAgain", inPlace := ["maps.clone"], unfollowed := true, recurses := true, apart := false, narrowed := true }
def HeadAgainUptoSaid : Prop := headAgainUptoRow.holds Try.pinned (OpenSpec.upto headAgainSpec)

end Rows
end Go.Proofs.Ytpnfgkgloioddaa
