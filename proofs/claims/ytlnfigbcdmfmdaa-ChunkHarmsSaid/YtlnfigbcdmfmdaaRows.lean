/-
  No cell of these rows narrows 'for every input' (looked for: loops, veiled, ifaces, maps, wideKeys, modest, calm, conditions, laid).
  DERIVED. THE GIVEN ROWS OF THIS SEAT. 7 by the template 'for every input the law returns true; each argument reads behind the call as it read before'; 0 by the template 'total and deterministic' (their statements: YtlnfigbcdmfmdaaTotals.lean).
  GIVEN WITH THE SEED: the statements are not yours to turn. If you find one false, say at which input.
  Laid BY PROGRAM, IN A SANDBOX (cutbox-rows.mjs): the forced cells as the released guide's own fill.sh prints them over the translation 70934e5b644d6b6c… (all of the seat's roots in one cut). By AI agents, Wed Nov 11 2026. No macro, syntax, notation, axiom, sorry.
-/
import Derived.Test.YtlnfigbcdmfmdaaChecked
import GoSem.Claim
import GoSem.ClaimJoined
import GoSem.ClaimMapViews
import Derived.JoinedTies
import Derived.KernelRfl
namespace Go.Proofs.Ytlnfigbcdmfmdaa
/- THE CELL 'sum', in the pinned program and in every row, IS THE sha256 OF THE DUMP (.gsa) THAT YtlnfigbcdmfmdaaProg.lean LOADS. Nothing in Lean hashes anything: it is a label: what it is worth is what the hold of that sum in a sandbox is worth. -/
noncomputable def Try.pinned : Pinned := { name := "ytlnfigbcdmfmdaa", sum := "70934e5b644d6b6c07519615e1232430b2c1c1e11a5eb1eea0706581d4155616", checked := Try.checked }
namespace Rows
def none {H : Type} : Left H := { results := [], args := [] }

/-- 'orchardlaw07.ChunkOthers': WHATEVER THE INPUT: true; the input reads as it did. -/
def chunkOthersSpec : ChangeSpec := { name := "chunkOthers", fn := fun _ => fun
  | [d1, d2, d3] => { results := [.lit (.bool true)], args := [d1, d2, d3] }
  | _ => none }
def chunkOthersRow : OpenClaim := { program := "ytlnfigbcdmfmdaa", sum := "70934e5b644d6b6c07519615e1232430b2c1c1e11a5eb1eea0706581d4155616", func := "orchard/orchardlaw07.ChunkOthers", spec := "chunkOthers", unfollowed := true, recurses := true, apart := false }
def ChunkOthersSaid : Prop := chunkOthersRow.holds Try.pinned (OpenSpec.ofChange chunkOthersSpec)

/-- ITS FALSE NEIGHBOUR: 'it returns false'. Refute it at one input. -/
def chunkOthersWrong : ChangeSpec := { name := "chunkOthers", fn := fun _ => fun
  | [d1, d2, d3] => { results := [.lit (.bool false)], args := [d1, d2, d3] }
  | _ => none }
def ChunkOthersWrongFalsely : Prop := chunkOthersRow.holds Try.pinned (OpenSpec.ofChange chunkOthersWrong)

/-- 'orchardlaw07.ChunkCuts': WHATEVER THE INPUT: true; the input reads as it did. -/
def chunkCutsSpec : ChangeSpec := { name := "chunkCuts", fn := fun _ => fun
  | [d1, d2, d3, d4] => { results := [.lit (.bool true)], args := [d1, d2, d3, d4] }
  | _ => none }
def chunkCutsRow : OpenClaim := { program := "ytlnfigbcdmfmdaa", sum := "70934e5b644d6b6c07519615e1232430b2c1c1e11a5eb1eea0706581d4155616", func := "orchard/orchardlaw07.ChunkCuts", spec := "chunkCuts", unfollowed := true, recurses := true, apart := false }
def ChunkCutsSaid : Prop := chunkCutsRow.holds Try.pinned (OpenSpec.ofChange chunkCutsSpec)

/-- ITS FALSE NEIGHBOUR: 'it returns false'. Refute it at one input. -/
def chunkCutsWrong : ChangeSpec := { name := "chunkCuts", fn := fun _ => fun
  | [d1, d2, d3, d4] => { results := [.lit (.bool false)], args := [d1, d2, d3, d4] }
  | _ => none }
def ChunkCutsWrongFalsely : Prop := chunkCutsRow.holds Try.pinned (OpenSpec.ofChange chunkCutsWrong)

/-- 'orchardlaw07.ChunkMended': WHATEVER THE INPUT: true; the input reads as it did. -/
def chunkMendedSpec : ChangeSpec := { name := "chunkMended", fn := fun _ => fun
  | [d1, d2, d3, d4] => { results := [.lit (.bool true)], args := [d1, d2, d3, d4] }
  | _ => none }
def chunkMendedRow : OpenClaim := { program := "ytlnfigbcdmfmdaa", sum := "70934e5b644d6b6c07519615e1232430b2c1c1e11a5eb1eea0706581d4155616", func := "orchard/orchardlaw07.ChunkMended", spec := "chunkMended", inPlace := ["maps.clone"], unfollowed := true, recurses := true, apart := false }
def ChunkMendedSaid : Prop := chunkMendedRow.holds Try.pinned (OpenSpec.ofChange chunkMendedSpec)

/-- ITS FALSE NEIGHBOUR: 'it returns false'. Refute it at one input. -/
def chunkMendedWrong : ChangeSpec := { name := "chunkMended", fn := fun _ => fun
  | [d1, d2, d3, d4] => { results := [.lit (.bool false)], args := [d1, d2, d3, d4] }
  | _ => none }
def ChunkMendedWrongFalsely : Prop := chunkMendedRow.holds Try.pinned (OpenSpec.ofChange chunkMendedWrong)

/-- 'orchardlaw07.ChunkAreas': WHATEVER THE INPUT: true; the input reads as it did. -/
def chunkAreasSpec : ChangeSpec := { name := "chunkAreas", fn := fun _ => fun
  | [d] => { results := [.lit (.bool true)], args := [d] }
  | _ => none }
def chunkAreasRow : OpenClaim := { program := "ytlnfigbcdmfmdaa", sum := "70934e5b644d6b6c07519615e1232430b2c1c1e11a5eb1eea0706581d4155616", func := "orchard/orchardlaw07.ChunkAreas", spec := "chunkAreas", inPlace := ["maps.clone"], unfollowed := true, recurses := true, apart := false }
def ChunkAreasSaid : Prop := chunkAreasRow.holds Try.pinned (OpenSpec.ofChange chunkAreasSpec)

/-- ITS FALSE NEIGHBOUR: 'it returns false'. Refute it at one input. -/
def chunkAreasWrong : ChangeSpec := { name := "chunkAreas", fn := fun _ => fun
  | [d] => { results := [.lit (.bool false)], args := [d] }
  | _ => none }
def ChunkAreasWrongFalsely : Prop := chunkAreasRow.holds Try.pinned (OpenSpec.ofChange chunkAreasWrong)

/-- 'orchardlaw07.ChunkBlocks': WHATEVER THE INPUT: true; the input reads as it did. -/
def chunkBlocksSpec : ChangeSpec := { name := "chunkBlocks", fn := fun _ => fun
  | [d1, d2, d3, d4] => { results := [.lit (.bool true)], args := [d1, d2, d3, d4] }
  | _ => none }
def chunkBlocksRow : OpenClaim := { program := "ytlnfigbcdmfmdaa", sum := "70934e5b644d6b6c07519615e1232430b2c1c1e11a5eb1eea0706581d4155616", func := "orchard/orchardlaw07.ChunkBlocks", spec := "chunkBlocks", unfollowed := true, recurses := true, apart := false }
def ChunkBlocksSaid : Prop := chunkBlocksRow.holds Try.pinned (OpenSpec.ofChange chunkBlocksSpec)

/-- ITS FALSE NEIGHBOUR: 'it returns false'. Refute it at one input. -/
def chunkBlocksWrong : ChangeSpec := { name := "chunkBlocks", fn := fun _ => fun
  | [d1, d2, d3, d4] => { results := [.lit (.bool false)], args := [d1, d2, d3, d4] }
  | _ => none }
def ChunkBlocksWrongFalsely : Prop := chunkBlocksRow.holds Try.pinned (OpenSpec.ofChange chunkBlocksWrong)

/-- 'orchardlaw07.ChunkPuts': WHATEVER THE INPUT: true; the input reads as it did. -/
def chunkPutsSpec : ChangeSpec := { name := "chunkPuts", fn := fun _ => fun
  | [d] => { results := [.lit (.bool true)], args := [d] }
  | _ => none }
def chunkPutsRow : OpenClaim := { program := "ytlnfigbcdmfmdaa", sum := "70934e5b644d6b6c07519615e1232430b2c1c1e11a5eb1eea0706581d4155616", func := "orchard/orchardlaw07.ChunkPuts", spec := "chunkPuts", inPlace := ["maps.clone"], unfollowed := true, recurses := true, apart := false }
def ChunkPutsSaid : Prop := chunkPutsRow.holds Try.pinned (OpenSpec.ofChange chunkPutsSpec)

/-- ITS FALSE NEIGHBOUR: 'it returns false'. Refute it at one input. -/
def chunkPutsWrong : ChangeSpec := { name := "chunkPuts", fn := fun _ => fun
  | [d] => { results := [.lit (.bool false)], args := [d] }
  | _ => none }
def ChunkPutsWrongFalsely : Prop := chunkPutsRow.holds Try.pinned (OpenSpec.ofChange chunkPutsWrong)

/-- 'orchardlaw07.ChunkHarms': WHATEVER THE INPUT: true; the input reads as it did. -/
def chunkHarmsSpec : ChangeSpec := { name := "chunkHarms", fn := fun _ => fun
  | [d1, d2, d3, d4, d5] => { results := [.lit (.bool true)], args := [d1, d2, d3, d4, d5] }
  | _ => none }
def chunkHarmsRow : OpenClaim := { program := "ytlnfigbcdmfmdaa", sum := "70934e5b644d6b6c07519615e1232430b2c1c1e11a5eb1eea0706581d4155616", func := "orchard/orchardlaw07.ChunkHarms", spec := "chunkHarms", unfollowed := true, recurses := true, apart := false }
def ChunkHarmsSaid : Prop := chunkHarmsRow.holds Try.pinned (OpenSpec.ofChange chunkHarmsSpec)

/-- ITS FALSE NEIGHBOUR: 'it returns false'. Refute it at one input. -/
def chunkHarmsWrong : ChangeSpec := { name := "chunkHarms", fn := fun _ => fun
  | [d1, d2, d3, d4, d5] => { results := [.lit (.bool false)], args := [d1, d2, d3, d4, d5] }
  | _ => none }
def ChunkHarmsWrongFalsely : Prop := chunkHarmsRow.holds Try.pinned (OpenSpec.ofChange chunkHarmsWrong)

/- THE SECOND FORM. 'bulk': how many values and letters a reading holds, each counted each time it is reached (what is shared counts as often as it is met; a slice's spare places count too). A statement '..UptoSaid' is the law's where the arguments, and the package variables that the reading takes, are together of bulk at most 1048576: NARROWER than '..Said'. Prove '..Said' where nothing that the law and all that it calls make is longer than what came in: it says more and counts as full. Else prove '..UptoSaid'. A law counts once. -/
mutual
def uptoBulk {H : Type} : DataW H → Nat
  | .lit (.string bytes) => bytes.length + 1
  | .lit _ => 1
  | .nil => 1
  | .ptr d => uptoBulk d + 1
  | .slice elems spare => uptoBulkAll elems + uptoBulkAll spare + 1
  | .agg parts => uptoBulkAll parts + 1
  | .iface _ d => uptoBulk d + 1
  | .map entries => uptoBulkEntries entries + 1
  | .held _ => 1
def uptoBulkAll {H : Type} : List (DataW H) → Nat
  | [] => 0
  | d :: r => uptoBulk d + uptoBulkAll r
def uptoBulkEntries {H : Type} : List (Lit × DataW H) → Nat
  | [] => 0
  | x :: r => uptoBulkEntry x + uptoBulkEntries r
def uptoBulkEntry {H : Type} : Lit × DataW H → Nat
  | (.string bytes, d) => bytes.length + uptoBulk d + 1
  | (_, d) => uptoBulk d + 1
 end
def uptoSmall : (H : Type) → List (DataW H) → Bool := fun _ ds => decide (uptoBulkAll ds ≤ 1048576)
def OpenSpec.upto (s : _root_.Go.ChangeSpec) : _root_.Go.OpenSpec := { _root_.Go.OpenSpec.ofChange s with cond := some uptoSmall }

/-- 'orchardlaw07.ChunkOthers', WHERE WHAT IT READS IS OF BULK AT MOST 1048576: true; the input reads as it did. -/
def chunkOthersUptoRow : OpenClaim := { program := "ytlnfigbcdmfmdaa", sum := "70934e5b644d6b6c07519615e1232430b2c1c1e11a5eb1eea0706581d4155616", func := "orchard/orchardlaw07.ChunkOthers", spec := "chunkOthers", unfollowed := true, recurses := true, apart := false, narrowed := true }
def ChunkOthersUptoSaid : Prop := chunkOthersUptoRow.holds Try.pinned (OpenSpec.upto chunkOthersSpec)

/-- 'orchardlaw07.ChunkCuts', WHERE WHAT IT READS IS OF BULK AT MOST 1048576: true; the input reads as it did. -/
def chunkCutsUptoRow : OpenClaim := { program := "ytlnfigbcdmfmdaa", sum := "70934e5b644d6b6c07519615e1232430b2c1c1e11a5eb1eea0706581d4155616", func := "orchard/orchardlaw07.ChunkCuts", spec := "chunkCuts", unfollowed := true, recurses := true, apart := false, narrowed := true }
def ChunkCutsUptoSaid : Prop := chunkCutsUptoRow.holds Try.pinned (OpenSpec.upto chunkCutsSpec)

/-- 'orchardlaw07.ChunkMended', WHERE WHAT IT READS IS OF BULK AT MOST 1048576: true; the input reads as it did. -/
def chunkMendedUptoRow : OpenClaim := { program := "ytlnfigbcdmfmdaa", sum := "70934e5b644d6b6c07519615e1232430b2c1c1e11a5eb1eea0706581d4155616", func := "orchard/orchardlaw07.ChunkMended", spec := "chunkMended", inPlace := ["maps.clone"], unfollowed := true, recurses := true, apart := false, narrowed := true }
def ChunkMendedUptoSaid : Prop := chunkMendedUptoRow.holds Try.pinned (OpenSpec.upto chunkMendedSpec)

/-- 'orchardlaw07.ChunkAreas', WHERE WHAT IT READS IS OF BULK AT MOST 1048576: true; the input reads as it did. -/
def chunkAreasUptoRow : OpenClaim := { program := "ytlnfigbcdmfmdaa", sum := "70934e5b644d6b6c07519615e1232430b2c1c1e11a5eb1eea0706581d4155616", func := "orchard/orchardlaw07.ChunkAreas", spec := "chunkAreas", inPlace := ["maps.clone"], unfollowed := true, recurses := true, apart := false, narrowed := true }
def ChunkAreasUptoSaid : Prop := chunkAreasUptoRow.holds Try.pinned (OpenSpec.upto chunkAreasSpec)

/-- 'orchardlaw07.ChunkBlocks', WHERE WHAT IT READS IS OF BULK AT MOST 1048576: true; the input reads as it did. -/
def chunkBlocksUptoRow : OpenClaim := { program := "ytlnfigbcdmfmdaa", sum := "70934e5b644d6b6c07519615e1232430b2c1c1e11a5eb1eea0706581d4155616", func := "orchard/orchardlaw07.ChunkBlocks", spec := "chunkBlocks", unfollowed := true, recurses := true, apart := false, narrowed := true }
def ChunkBlocksUptoSaid : Prop := chunkBlocksUptoRow.holds Try.pinned (OpenSpec.upto chunkBlocksSpec)

/-- 'orchardlaw07.ChunkPuts', WHERE WHAT IT READS IS OF BULK AT MOST 1048576: true; the input reads as it did. -/
def chunkPutsUptoRow : OpenClaim := { program := "ytlnfigbcdmfmdaa", sum := "70934e5b644d6b6c07519615e1232430b2c1c1e11a5eb1eea0706581d4155616", func := "orchard/orchardlaw07.ChunkPuts", spec := "chunkPuts", inPlace := ["maps.clone"], unfollowed := true, recurses := true, apart := false, narrowed := true }
def ChunkPutsUptoSaid : Prop := chunkPutsUptoRow.holds Try.pinned (OpenSpec.upto chunkPutsSpec)

/-- 'orchardlaw07.ChunkHarms', WHERE WHAT IT READS IS OF BULK AT MOST 1048576: true; the input reads as it did. -/
def chunkHarmsUptoRow : OpenClaim := { program := "ytlnfigbcdmfmdaa", sum := "70934e5b644d6b6c07519615e1232430b2c1c1e11a5eb1eea0706581d4155616", func := "orchard/orchardlaw07.ChunkHarms", spec := "chunkHarms", unfollowed := true, recurses := true, apart := false, narrowed := true }
def ChunkHarmsUptoSaid : Prop := chunkHarmsUptoRow.holds Try.pinned (OpenSpec.upto chunkHarmsSpec)

end Rows
end Go.Proofs.Ytlnfigbcdmfmdaa
