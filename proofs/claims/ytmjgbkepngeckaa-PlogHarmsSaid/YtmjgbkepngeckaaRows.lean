/-
  No cell of these rows narrows 'for every input' (looked for: loops, veiled, ifaces, maps, wideKeys, modest, calm, conditions, laid).
  DERIVED. THE GIVEN ROWS OF THIS SEAT. 8 by the template 'for every input the law returns true; each argument reads behind the call as it read before'; 0 by the template 'total and deterministic' (their statements: YtmjgbkepngeckaaTotals.lean).
  GIVEN WITH THE SEED: the statements are not yours to turn. If you find one false, say at which input.
  Laid BY PROGRAM, IN A SANDBOX (cutbox-rows.mjs): the forced cells as the released guide's own fill.sh prints them over the translation 1c9038c85d7d0879… (all of the seat's roots in one cut). By AI agents, Wed Nov 11 2026. No macro, syntax, notation, axiom, sorry.
-/
import Derived.Test.YtmjgbkepngeckaaChecked
import GoSem.Claim
import GoSem.ClaimJoined
import GoSem.ClaimMapViews
import Derived.JoinedTies
import Derived.KernelRfl
namespace Go.Proofs.Ytmjgbkepngeckaa
/- THE CELL 'sum', in the pinned program and in every row, IS THE sha256 OF THE DUMP (.gsa) THAT YtmjgbkepngeckaaProg.lean LOADS. Nothing in Lean hashes anything: it is a label: what it is worth is what the hold of that sum in a sandbox is worth. -/
noncomputable def Try.pinned : Pinned := { name := "ytmjgbkepngeckaa", sum := "1c9038c85d7d0879780571f1404685a3a0ab3dda6d1c1d6aa8ad0b3037a9109d", checked := Try.checked }
namespace Rows
def none {H : Type} : Left H := { results := [], args := [] }

/-- 'orchardlaw06.PlogBlocks': WHATEVER THE INPUT: true; the input reads as it did. -/
def plogBlocksSpec : ChangeSpec := { name := "plogBlocks", fn := fun _ => fun
  | [d] => { results := [.lit (.bool true)], args := [d] }
  | _ => none }
def plogBlocksRow : OpenClaim := { program := "ytmjgbkepngeckaa", sum := "1c9038c85d7d0879780571f1404685a3a0ab3dda6d1c1d6aa8ad0b3037a9109d", func := "orchard/orchardlaw06.PlogBlocks", spec := "plogBlocks", inPlace := ["maps.clone"], unfollowed := true, recurses := true, plainKeys := false, apart := false }
def PlogBlocksSaid : Prop := plogBlocksRow.holds Try.pinned (OpenSpec.ofChange plogBlocksSpec)

/-- ITS FALSE NEIGHBOUR: 'it returns false'. Refute it at one input. -/
def plogBlocksWrong : ChangeSpec := { name := "plogBlocks", fn := fun _ => fun
  | [d] => { results := [.lit (.bool false)], args := [d] }
  | _ => none }
def PlogBlocksWrongFalsely : Prop := plogBlocksRow.holds Try.pinned (OpenSpec.ofChange plogBlocksWrong)

/-- 'orchardlaw06.PlogHarms': WHATEVER THE INPUT: true; the input reads as it did. -/
def plogHarmsSpec : ChangeSpec := { name := "plogHarms", fn := fun _ => fun
  | [d1, d2] => { results := [.lit (.bool true)], args := [d1, d2] }
  | _ => none }
def plogHarmsRow : OpenClaim := { program := "ytmjgbkepngeckaa", sum := "1c9038c85d7d0879780571f1404685a3a0ab3dda6d1c1d6aa8ad0b3037a9109d", func := "orchard/orchardlaw06.PlogHarms", spec := "plogHarms", inPlace := ["maps.clone"], unfollowed := true, recurses := true, plainKeys := false, apart := false }
def PlogHarmsSaid : Prop := plogHarmsRow.holds Try.pinned (OpenSpec.ofChange plogHarmsSpec)

/-- ITS FALSE NEIGHBOUR: 'it returns false'. Refute it at one input. -/
def plogHarmsWrong : ChangeSpec := { name := "plogHarms", fn := fun _ => fun
  | [d1, d2] => { results := [.lit (.bool false)], args := [d1, d2] }
  | _ => none }
def PlogHarmsWrongFalsely : Prop := plogHarmsRow.holds Try.pinned (OpenSpec.ofChange plogHarmsWrong)

/-- 'orchardlaw06.PlogRings': WHATEVER THE INPUT: true; the input reads as it did. -/
def plogRingsSpec : ChangeSpec := { name := "plogRings", fn := fun _ => fun
  | [d1, d2] => { results := [.lit (.bool true)], args := [d1, d2] }
  | _ => none }
def plogRingsRow : OpenClaim := { program := "ytmjgbkepngeckaa", sum := "1c9038c85d7d0879780571f1404685a3a0ab3dda6d1c1d6aa8ad0b3037a9109d", func := "orchard/orchardlaw06.PlogRings", spec := "plogRings", unfollowed := true, recurses := true, plainKeys := false, apart := false }
def PlogRingsSaid : Prop := plogRingsRow.holds Try.pinned (OpenSpec.ofChange plogRingsSpec)

/-- ITS FALSE NEIGHBOUR: 'it returns false'. Refute it at one input. -/
def plogRingsWrong : ChangeSpec := { name := "plogRings", fn := fun _ => fun
  | [d1, d2] => { results := [.lit (.bool false)], args := [d1, d2] }
  | _ => none }
def PlogRingsWrongFalsely : Prop := plogRingsRow.holds Try.pinned (OpenSpec.ofChange plogRingsWrong)

/-- 'orchardlaw06.PlogDrops': WHATEVER THE INPUT: true; the input reads as it did. -/
def plogDropsSpec : ChangeSpec := { name := "plogDrops", fn := fun _ => fun
  | [d1, d2, d3] => { results := [.lit (.bool true)], args := [d1, d2, d3] }
  | _ => none }
def plogDropsRow : OpenClaim := { program := "ytmjgbkepngeckaa", sum := "1c9038c85d7d0879780571f1404685a3a0ab3dda6d1c1d6aa8ad0b3037a9109d", func := "orchard/orchardlaw06.PlogDrops", spec := "plogDrops", unfollowed := true, recurses := true, plainKeys := false, apart := false }
def PlogDropsSaid : Prop := plogDropsRow.holds Try.pinned (OpenSpec.ofChange plogDropsSpec)

/-- ITS FALSE NEIGHBOUR: 'it returns false'. Refute it at one input. -/
def plogDropsWrong : ChangeSpec := { name := "plogDrops", fn := fun _ => fun
  | [d1, d2, d3] => { results := [.lit (.bool false)], args := [d1, d2, d3] }
  | _ => none }
def PlogDropsWrongFalsely : Prop := plogDropsRow.holds Try.pinned (OpenSpec.ofChange plogDropsWrong)

/-- 'orchardlaw06.PlogScrubs': WHATEVER THE INPUT: true; the input reads as it did. -/
def plogScrubsSpec : ChangeSpec := { name := "plogScrubs", fn := fun _ => fun
  | [d1, d2] => { results := [.lit (.bool true)], args := [d1, d2] }
  | _ => none }
def plogScrubsRow : OpenClaim := { program := "ytmjgbkepngeckaa", sum := "1c9038c85d7d0879780571f1404685a3a0ab3dda6d1c1d6aa8ad0b3037a9109d", func := "orchard/orchardlaw06.PlogScrubs", spec := "plogScrubs", unfollowed := true, recurses := true, plainKeys := false, apart := false }
def PlogScrubsSaid : Prop := plogScrubsRow.holds Try.pinned (OpenSpec.ofChange plogScrubsSpec)

/-- ITS FALSE NEIGHBOUR: 'it returns false'. Refute it at one input. -/
def plogScrubsWrong : ChangeSpec := { name := "plogScrubs", fn := fun _ => fun
  | [d1, d2] => { results := [.lit (.bool false)], args := [d1, d2] }
  | _ => none }
def PlogScrubsWrongFalsely : Prop := plogScrubsRow.holds Try.pinned (OpenSpec.ofChange plogScrubsWrong)

/-- 'orchardlaw06.PlogMends': WHATEVER THE INPUT: true; the input reads as it did. -/
def plogMendsSpec : ChangeSpec := { name := "plogMends", fn := fun _ => fun
  | [d1, d2, d3, d4, d5] => { results := [.lit (.bool true)], args := [d1, d2, d3, d4, d5] }
  | _ => none }
def plogMendsRow : OpenClaim := { program := "ytmjgbkepngeckaa", sum := "1c9038c85d7d0879780571f1404685a3a0ab3dda6d1c1d6aa8ad0b3037a9109d", func := "orchard/orchardlaw06.PlogMends", spec := "plogMends", inPlace := ["maps.clone"], unfollowed := true, recurses := true, plainKeys := false, apart := false }
def PlogMendsSaid : Prop := plogMendsRow.holds Try.pinned (OpenSpec.ofChange plogMendsSpec)

/-- ITS FALSE NEIGHBOUR: 'it returns false'. Refute it at one input. -/
def plogMendsWrong : ChangeSpec := { name := "plogMends", fn := fun _ => fun
  | [d1, d2, d3, d4, d5] => { results := [.lit (.bool false)], args := [d1, d2, d3, d4, d5] }
  | _ => none }
def PlogMendsWrongFalsely : Prop := plogMendsRow.holds Try.pinned (OpenSpec.ofChange plogMendsWrong)

/-- 'orchardlaw06.PlogCuts': WHATEVER THE INPUT: true; the input reads as it did. -/
def plogCutsSpec : ChangeSpec := { name := "plogCuts", fn := fun _ => fun
  | [d1, d2, d3, d4] => { results := [.lit (.bool true)], args := [d1, d2, d3, d4] }
  | _ => none }
def plogCutsRow : OpenClaim := { program := "ytmjgbkepngeckaa", sum := "1c9038c85d7d0879780571f1404685a3a0ab3dda6d1c1d6aa8ad0b3037a9109d", func := "orchard/orchardlaw06.PlogCuts", spec := "plogCuts", inPlace := ["maps.clone"], unfollowed := true, recurses := true, plainKeys := false, apart := false }
def PlogCutsSaid : Prop := plogCutsRow.holds Try.pinned (OpenSpec.ofChange plogCutsSpec)

/-- ITS FALSE NEIGHBOUR: 'it returns false'. Refute it at one input. -/
def plogCutsWrong : ChangeSpec := { name := "plogCuts", fn := fun _ => fun
  | [d1, d2, d3, d4] => { results := [.lit (.bool false)], args := [d1, d2, d3, d4] }
  | _ => none }
def PlogCutsWrongFalsely : Prop := plogCutsRow.holds Try.pinned (OpenSpec.ofChange plogCutsWrong)

/-- 'orchardlaw06.PlogErrors': WHATEVER THE INPUT: true; the input reads as it did. -/
def plogErrorsSpec : ChangeSpec := { name := "plogErrors", fn := fun _ => fun
  | [d1, d2] => { results := [.lit (.bool true)], args := [d1, d2] }
  | _ => none }
def plogErrorsRow : OpenClaim := { program := "ytmjgbkepngeckaa", sum := "1c9038c85d7d0879780571f1404685a3a0ab3dda6d1c1d6aa8ad0b3037a9109d", func := "orchard/orchardlaw06.PlogErrors", spec := "plogErrors", unfollowed := true, recurses := true, plainKeys := false, apart := false }
def PlogErrorsSaid : Prop := plogErrorsRow.holds Try.pinned (OpenSpec.ofChange plogErrorsSpec)

/-- ITS FALSE NEIGHBOUR: 'it returns false'. Refute it at one input. -/
def plogErrorsWrong : ChangeSpec := { name := "plogErrors", fn := fun _ => fun
  | [d1, d2] => { results := [.lit (.bool false)], args := [d1, d2] }
  | _ => none }
def PlogErrorsWrongFalsely : Prop := plogErrorsRow.holds Try.pinned (OpenSpec.ofChange plogErrorsWrong)

/- THE SECOND FORM. 'bulk': how many values and letters a reading holds, each counted each time it is reached (what is shared counts as often as it is met; a slice's spare places count too). A statement '..UptoSaid' is the law's where the arguments, and the package variables that the reading takes, are together of bulk at most 1048576: NARROWER than '..Said'. Prove '..Said' where nothing that the law and all that it calls make is longer than what came in: it says more and counts as full. Else prove '..UptoSaid'. A law counts once. -/
mutual
def uptoBulk {H : Type} : DataW H → Nat
  | .lit (.string bytes) => bytes.length + 1
  | .lit _ => 1
  | .nil => 1
  | .ptr d => uptoBulk d + 1
  | .slice elems spare => uptoBulkAll elems + uptoBulkAll spare + 1
  | .agg parts => uptoBulkAll parts + 1
  | .iface _ d => uptoBulk d + 1
  | .map entries => uptoBulkEntries entries + 1
  | .held _ => 1
def uptoBulkAll {H : Type} : List (DataW H) → Nat
  | [] => 0
  | d :: r => uptoBulk d + uptoBulkAll r
def uptoBulkEntries {H : Type} : List (Lit × DataW H) → Nat
  | [] => 0
  | x :: r => uptoBulkEntry x + uptoBulkEntries r
def uptoBulkEntry {H : Type} : Lit × DataW H → Nat
  | (.string bytes, d) => bytes.length + uptoBulk d + 1
  | (_, d) => uptoBulk d + 1
 end
def uptoSmall : (H : Type) → List (DataW H) → Bool := fun _ ds => decide (uptoBulkAll ds ≤ 1048576)
def OpenSpec.upto (s : _root_.Go.ChangeSpec) : _root_.Go.OpenSpec := { _root_.Go.OpenSpec.ofChange s with cond := some uptoSmall }

/-- 'orchardlaw06.PlogBlocks', WHERE WHAT IT READS IS OF BULK AT MOST 1048576: true; the input reads as it did. -/
def plogBlocksUptoRow : OpenClaim := { program := "ytmjgbkepngeckaa", sum := "1c9038c85d7d0879780571f1404685a3a0ab3dda6d1c1d6aa8ad0b3037a9109d", func := "orchard/orchardlaw06.PlogBlocks", spec := "plogBlocks", inPlace := ["maps.clone"], unfollowed := true, recurses := true, plainKeys := false, apart := false, narrowed := true }
def PlogBlocksUptoSaid : Prop := plogBlocksUptoRow.holds Try.pinned (OpenSpec.upto plogBlocksSpec)

/-- 'orchardlaw06.PlogHarms', WHERE WHAT IT READS IS OF BULK AT MOST 1048576: true; the input reads as it did. -/
def plogHarmsUptoRow : OpenClaim := { program := "ytmjgbkepngeckaa", sum := "1c9038c85d7d0879780571f1404685a3a0ab3dda6d1c1d6aa8ad0b3037a9109d", func := "orchard/orchardlaw06.PlogHarms", spec := "plogHarms", inPlace := ["maps.clone"], unfollowed := true, recurses := true, plainKeys := false, apart := false, narrowed := true }
def PlogHarmsUptoSaid : Prop := plogHarmsUptoRow.holds Try.pinned (OpenSpec.upto plogHarmsSpec)

/-- 'orchardlaw06.PlogRings', WHERE WHAT IT READS IS OF BULK AT MOST 1048576: true; the input reads as it did. -/
def plogRingsUptoRow : OpenClaim := { program := "ytmjgbkepngeckaa", sum := "1c9038c85d7d0879780571f1404685a3a0ab3dda6d1c1d6aa8ad0b3037a9109d", func := "orchard/orchardlaw06.PlogRings", spec := "plogRings", unfollowed := true, recurses := true, plainKeys := false, apart := false, narrowed := true }
def PlogRingsUptoSaid : Prop := plogRingsUptoRow.holds Try.pinned (OpenSpec.upto plogRingsSpec)

/-- 'orchardlaw06.PlogDrops', WHERE WHAT IT READS IS OF BULK AT MOST 1048576: true; the input reads as it did. -/
def plogDropsUptoRow : OpenClaim := { program := "ytmjgbkepngeckaa", sum := "1c9038c85d7d0879780571f1404685a3a0ab3dda6d1c1d6aa8ad0b3037a9109d", func := "orchard/orchardlaw06.PlogDrops", spec := "plogDrops", unfollowed := true, recurses := true, plainKeys := false, apart := false, narrowed := true }
def PlogDropsUptoSaid : Prop := plogDropsUptoRow.holds Try.pinned (OpenSpec.upto plogDropsSpec)

/-- 'orchardlaw06.PlogScrubs', WHERE WHAT IT READS IS OF BULK AT MOST 1048576: true; the input reads as it did. -/
def plogScrubsUptoRow : OpenClaim := { program := "ytmjgbkepngeckaa", sum := "1c9038c85d7d0879780571f1404685a3a0ab3dda6d1c1d6aa8ad0b3037a9109d", func := "orchard/orchardlaw06.PlogScrubs", spec := "plogScrubs", unfollowed := true, recurses := true, plainKeys := false, apart := false, narrowed := true }
def PlogScrubsUptoSaid : Prop := plogScrubsUptoRow.holds Try.pinned (OpenSpec.upto plogScrubsSpec)

/-- 'orchardlaw06.PlogMends', WHERE WHAT IT READS IS OF BULK AT MOST 1048576: true; the input reads as it did. -/
def plogMendsUptoRow : OpenClaim := { program := "ytmjgbkepngeckaa", sum := "1c9038c85d7d0879780571f1404685a3a0ab3dda6d1c1d6aa8ad0b3037a9109d", func := "orchard/orchardlaw06.PlogMends", spec := "plogMends", inPlace := ["maps.clone"], unfollowed := true, recurses := true, plainKeys := false, apart := false, narrowed := true }
def PlogMendsUptoSaid : Prop := plogMendsUptoRow.holds Try.pinned (OpenSpec.upto plogMendsSpec)

/-- 'orchardlaw06.PlogCuts', WHERE WHAT IT READS IS OF BULK AT MOST 1048576: true; the input reads as it did. -/
def plogCutsUptoRow : OpenClaim := { program := "ytmjgbkepngeckaa", sum := "1c9038c85d7d0879780571f1404685a3a0ab3dda6d1c1d6aa8ad0b3037a9109d", func := "orchard/orchardlaw06.PlogCuts", spec := "plogCuts", inPlace := ["maps.clone"], unfollowed := true, recurses := true, plainKeys := false, apart := false, narrowed := true }
def PlogCutsUptoSaid : Prop := plogCutsUptoRow.holds Try.pinned (OpenSpec.upto plogCutsSpec)

/-- 'orchardlaw06.PlogErrors', WHERE WHAT IT READS IS OF BULK AT MOST 1048576: true; the input reads as it did. -/
def plogErrorsUptoRow : OpenClaim := { program := "ytmjgbkepngeckaa", sum := "1c9038c85d7d0879780571f1404685a3a0ab3dda6d1c1d6aa8ad0b3037a9109d", func := "orchard/orchardlaw06.PlogErrors", spec := "plogErrors", unfollowed := true, recurses := true, plainKeys := false, apart := false, narrowed := true }
def PlogErrorsUptoSaid : Prop := plogErrorsUptoRow.holds Try.pinned (OpenSpec.upto plogErrorsSpec)

end Rows
end Go.Proofs.Ytmjgbkepngeckaa
