/-
  No cell of these rows narrows 'for every input' (looked for: loops, veiled, ifaces, maps, wideKeys, modest, calm, conditions, laid).
  DERIVED. THE GIVEN ROWS OF THIS SEAT. 9 by the template 'for every input the law returns true; each argument reads behind the call as it read before'; 0 by the template 'total and deterministic' (their statements: YtaekkkcgoegllaaTotals.lean).
  GIVEN WITH THE SEED: the statements are not yours to turn. If you find one false, say at which input.
  Laid BY PROGRAM, IN A SANDBOX (cutbox-rows.mjs): the forced cells as the released guide's own fill.sh prints them over the translation 63f75d1cda29c2f0… (all of the seat's roots in one cut). By AI agents, Wed Nov 11 2026. No macro, syntax, notation, axiom, sorry.
-/
import Derived.Test.YtaekkkcgoegllaaChecked
import GoSem.Claim
import GoSem.ClaimJoined
import GoSem.ClaimMapViews
import Derived.JoinedTies
import Derived.KernelRfl
namespace Go.Proofs.Ytaekkkcgoegllaa
/- THE CELL 'sum', in the pinned program and in every row, IS THE sha256 OF THE DUMP (.gsa) THAT YtaekkkcgoegllaaProg.lean LOADS. Nothing in Lean hashes anything: it is a label: what it is worth is what the hold of that sum in a sandbox is worth. -/
noncomputable def Try.pinned : Pinned := { name := "ytaekkkcgoegllaa", sum := "63f75d1cda29c2f0e933edb223fb1066f7f7f2e6129bfa4d423f7185d6e05d82", checked := Try.checked }
namespace Rows
def none {H : Type} : Left H := { results := [], args := [] }

/-- 'orchardlaw17.NetMany': WHATEVER THE INPUT: true; the input reads as it did. -/
def netManySpec : ChangeSpec := { name := "netMany", fn := fun _ => fun
  | [d] => { results := [.lit (.bool true)], args := [d] }
  | _ => none }
def netManyRow : OpenClaim := { program := "ytaekkkcgoegllaa", sum := "63f75d1cda29c2f0e933edb223fb1066f7f7f2e6129bfa4d423f7185d6e05d82", func := "orchard/orchardlaw17.NetMany", spec := "netMany", unfollowed := true, recurses := true, apart := false }
def NetManySaid : Prop := netManyRow.holds Try.pinned (OpenSpec.ofChange netManySpec)

/-- ITS FALSE NEIGHBOUR: 'it returns false'. Refute it at one input. -/
def netManyWrong : ChangeSpec := { name := "netMany", fn := fun _ => fun
  | [d] => { results := [.lit (.bool false)], args := [d] }
  | _ => none }
def NetManyWrongFalsely : Prop := netManyRow.holds Try.pinned (OpenSpec.ofChange netManyWrong)

/-- 'orchardlaw17.NetDelays': WHATEVER THE INPUT: true; the input reads as it did. -/
def netDelaysSpec : ChangeSpec := { name := "netDelays", fn := fun _ => fun
  | [d] => { results := [.lit (.bool true)], args := [d] }
  | _ => none }
def netDelaysRow : OpenClaim := { program := "ytaekkkcgoegllaa", sum := "63f75d1cda29c2f0e933edb223fb1066f7f7f2e6129bfa4d423f7185d6e05d82", func := "orchard/orchardlaw17.NetDelays", spec := "netDelays", unfollowed := true, recurses := true, apart := false }
def NetDelaysSaid : Prop := netDelaysRow.holds Try.pinned (OpenSpec.ofChange netDelaysSpec)

/-- ITS FALSE NEIGHBOUR: 'it returns false'. Refute it at one input. -/
def netDelaysWrong : ChangeSpec := { name := "netDelays", fn := fun _ => fun
  | [d] => { results := [.lit (.bool false)], args := [d] }
  | _ => none }
def NetDelaysWrongFalsely : Prop := netDelaysRow.holds Try.pinned (OpenSpec.ofChange netDelaysWrong)

/-- 'orchardlaw17.NetSame': WHATEVER THE INPUT: true; the input reads as it did. -/
def netSameSpec : ChangeSpec := { name := "netSame", fn := fun _ => fun
  | [d] => { results := [.lit (.bool true)], args := [d] }
  | _ => none }
def netSameRow : OpenClaim := { program := "ytaekkkcgoegllaa", sum := "63f75d1cda29c2f0e933edb223fb1066f7f7f2e6129bfa4d423f7185d6e05d82", func := "orchard/orchardlaw17.NetSame", spec := "netSame", unfollowed := true, recurses := true, apart := false }
def NetSameSaid : Prop := netSameRow.holds Try.pinned (OpenSpec.ofChange netSameSpec)

/-- ITS FALSE NEIGHBOUR: 'it returns false'. Refute it at one input. -/
def netSameWrong : ChangeSpec := { name := "netSame", fn := fun _ => fun
  | [d] => { results := [.lit (.bool false)], args := [d] }
  | _ => none }
def NetSameWrongFalsely : Prop := netSameRow.holds Try.pinned (OpenSpec.ofChange netSameWrong)

/-- 'orchardlaw17.NetActs': WHATEVER THE INPUT: true; the input reads as it did. -/
def netActsSpec : ChangeSpec := { name := "netActs", fn := fun _ => fun
  | [d] => { results := [.lit (.bool true)], args := [d] }
  | _ => none }
def netActsRow : OpenClaim := { program := "ytaekkkcgoegllaa", sum := "63f75d1cda29c2f0e933edb223fb1066f7f7f2e6129bfa4d423f7185d6e05d82", func := "orchard/orchardlaw17.NetActs", spec := "netActs", unfollowed := true, recurses := true, apart := false }
def NetActsSaid : Prop := netActsRow.holds Try.pinned (OpenSpec.ofChange netActsSpec)

/-- ITS FALSE NEIGHBOUR: 'it returns false'. Refute it at one input. -/
def netActsWrong : ChangeSpec := { name := "netActs", fn := fun _ => fun
  | [d] => { results := [.lit (.bool false)], args := [d] }
  | _ => none }
def NetActsWrongFalsely : Prop := netActsRow.holds Try.pinned (OpenSpec.ofChange netActsWrong)

/-- 'orchardlaw14.MsgBytes': WHATEVER THE INPUT: true; the input reads as it did. -/
def msgBytesSpec : ChangeSpec := { name := "msgBytes", fn := fun _ => fun
  | [d1, d2] => { results := [.lit (.bool true)], args := [d1, d2] }
  | _ => none }
def msgBytesRow : OpenClaim := { program := "ytaekkkcgoegllaa", sum := "63f75d1cda29c2f0e933edb223fb1066f7f7f2e6129bfa4d423f7185d6e05d82", func := "orchard/orchardlaw14.MsgBytes", spec := "msgBytes", unfollowed := true, recurses := true, apart := false }
def MsgBytesSaid : Prop := msgBytesRow.holds Try.pinned (OpenSpec.ofChange msgBytesSpec)

/-- ITS FALSE NEIGHBOUR: 'it returns false'. Refute it at one input. -/
def msgBytesWrong : ChangeSpec := { name := "msgBytes", fn := fun _ => fun
  | [d1, d2] => { results := [.lit (.bool false)], args := [d1, d2] }
  | _ => none }
def MsgBytesWrongFalsely : Prop := msgBytesRow.holds Try.pinned (OpenSpec.ofChange msgBytesWrong)

/-- 'orchardlaw14.MsgReads': WHATEVER THE INPUT: true; the input reads as it did. -/
def msgReadsSpec : ChangeSpec := { name := "msgReads", fn := fun _ => fun
  | [d] => { results := [.lit (.bool true)], args := [d] }
  | _ => none }
def msgReadsRow : OpenClaim := { program := "ytaekkkcgoegllaa", sum := "63f75d1cda29c2f0e933edb223fb1066f7f7f2e6129bfa4d423f7185d6e05d82", func := "orchard/orchardlaw14.MsgReads", spec := "msgReads", unfollowed := true, recurses := true, apart := false }
def MsgReadsSaid : Prop := msgReadsRow.holds Try.pinned (OpenSpec.ofChange msgReadsSpec)

/-- ITS FALSE NEIGHBOUR: 'it returns false'. Refute it at one input. -/
def msgReadsWrong : ChangeSpec := { name := "msgReads", fn := fun _ => fun
  | [d] => { results := [.lit (.bool false)], args := [d] }
  | _ => none }
def MsgReadsWrongFalsely : Prop := msgReadsRow.holds Try.pinned (OpenSpec.ofChange msgReadsWrong)

/-- 'orchardlaw14.MsgApart': WHATEVER THE INPUT: true; the input reads as it did. -/
def msgApartSpec : ChangeSpec := { name := "msgApart", fn := fun _ => fun
  | [d1, d2] => { results := [.lit (.bool true)], args := [d1, d2] }
  | _ => none }
def msgApartRow : OpenClaim := { program := "ytaekkkcgoegllaa", sum := "63f75d1cda29c2f0e933edb223fb1066f7f7f2e6129bfa4d423f7185d6e05d82", func := "orchard/orchardlaw14.MsgApart", spec := "msgApart", unfollowed := true, recurses := true, apart := false }
def MsgApartSaid : Prop := msgApartRow.holds Try.pinned (OpenSpec.ofChange msgApartSpec)

/-- ITS FALSE NEIGHBOUR: 'it returns false'. Refute it at one input. -/
def msgApartWrong : ChangeSpec := { name := "msgApart", fn := fun _ => fun
  | [d1, d2] => { results := [.lit (.bool false)], args := [d1, d2] }
  | _ => none }
def MsgApartWrongFalsely : Prop := msgApartRow.holds Try.pinned (OpenSpec.ofChange msgApartWrong)

/-- 'orchardlaw14.MsgLimits': WHATEVER THE INPUT: true; the input reads as it did. -/
def msgLimitsSpec : ChangeSpec := { name := "msgLimits", fn := fun _ => fun
  | [d1, d2] => { results := [.lit (.bool true)], args := [d1, d2] }
  | _ => none }
def msgLimitsRow : OpenClaim := { program := "ytaekkkcgoegllaa", sum := "63f75d1cda29c2f0e933edb223fb1066f7f7f2e6129bfa4d423f7185d6e05d82", func := "orchard/orchardlaw14.MsgLimits", spec := "msgLimits", apart := false }
def MsgLimitsSaid : Prop := msgLimitsRow.holds Try.pinned (OpenSpec.ofChange msgLimitsSpec)

/-- ITS FALSE NEIGHBOUR: 'it returns false'. Refute it at one input. -/
def msgLimitsWrong : ChangeSpec := { name := "msgLimits", fn := fun _ => fun
  | [d1, d2] => { results := [.lit (.bool false)], args := [d1, d2] }
  | _ => none }
def MsgLimitsWrongFalsely : Prop := msgLimitsRow.holds Try.pinned (OpenSpec.ofChange msgLimitsWrong)

/-- 'orchardlaw14.MsgTurned': WHATEVER THE INPUT: true; the input reads as it did. -/
def msgTurnedSpec : ChangeSpec := { name := "msgTurned", fn := fun _ => fun
  | [d1, d2, d3] => { results := [.lit (.bool true)], args := [d1, d2, d3] }
  | _ => none }
def msgTurnedRow : OpenClaim := { program := "ytaekkkcgoegllaa", sum := "63f75d1cda29c2f0e933edb223fb1066f7f7f2e6129bfa4d423f7185d6e05d82", func := "orchard/orchardlaw14.MsgTurned", spec := "msgTurned", unfollowed := true, recurses := true, apart := false }
def MsgTurnedSaid : Prop := msgTurnedRow.holds Try.pinned (OpenSpec.ofChange msgTurnedSpec)

/-- ITS FALSE NEIGHBOUR: 'it returns false'. Refute it at one input. -/
def msgTurnedWrong : ChangeSpec := { name := "msgTurned", fn := fun _ => fun
  | [d1, d2, d3] => { results := [.lit (.bool false)], args := [d1, d2, d3] }
  | _ => none }
def MsgTurnedWrongFalsely : Prop := msgTurnedRow.holds Try.pinned (OpenSpec.ofChange msgTurnedWrong)

/- THE SECOND FORM. 'bulk': how many values and letters a reading holds, each counted each time it is reached (what is shared counts as often as it is met; a slice's spare places count too). A statement '..UptoSaid' is the law's where the arguments, and the package variables that the reading takes, are together of bulk at most 1048576: NARROWER than '..Said'. Prove '..Said' where nothing that the law and all that it calls make is longer than what came in: it says more and counts as full. Else prove '..UptoSaid'. A law counts once. -/
mutual
def uptoBulk {H : Type} : DataW H → Nat
  | .lit (.string bytes) => bytes.length + 1
  | .lit _ => 1
  | .nil => 1
  | .ptr d => uptoBulk d + 1
  | .slice elems spare => uptoBulkAll elems + uptoBulkAll spare + 1
  | .agg parts => uptoBulkAll parts + 1
  | .iface _ d => uptoBulk d + 1
  | .map entries => uptoBulkEntries entries + 1
  | .held _ => 1
def uptoBulkAll {H : Type} : List (DataW H) → Nat
  | [] => 0
  | d :: r => uptoBulk d + uptoBulkAll r
def uptoBulkEntries {H : Type} : List (Lit × DataW H) → Nat
  | [] => 0
  | x :: r => uptoBulkEntry x + uptoBulkEntries r
def uptoBulkEntry {H : Type} : Lit × DataW H → Nat
  | (.string bytes, d) => bytes.length + uptoBulk d + 1
  | (_, d) => uptoBulk d + 1
 end
def uptoSmall : (H : Type) → List (DataW H) → Bool := fun _ ds => decide (uptoBulkAll ds ≤ 1048576)
def OpenSpec.upto (s : _root_.Go.ChangeSpec) : _root_.Go.OpenSpec := { _root_.Go.OpenSpec.ofChange s with cond := some uptoSmall }

/-- 'orchardlaw17.NetMany', WHERE WHAT IT READS IS OF BULK AT MOST 1048576: true; the input reads as it did. -/
def netManyUptoRow : OpenClaim := { program := "ytaekkkcgoegllaa", sum := "63f75d1cda29c2f0e933edb223fb1066f7f7f2e6129bfa4d423f7185d6e05d82", func := "orchard/orchardlaw17.NetMany", spec := "netMany", unfollowed := true, recurses := true, apart := false, narrowed := true }
def NetManyUptoSaid : Prop := netManyUptoRow.holds Try.pinned (OpenSpec.upto netManySpec)

/-- 'orchardlaw17.NetDelays', WHERE WHAT IT READS IS OF BULK AT MOST 1048576: true; the input reads as it did. -/
def netDelaysUptoRow : OpenClaim := { program := "ytaekkkcgoegllaa", sum := "63f75d1cda29c2f0e933edb223fb1066f7f7f2e6129bfa4d423f7185d6e05d82", func := "orchard/orchardlaw17.NetDelays", spec := "netDelays", unfollowed := true, recurses := true, apart := false, narrowed := true }
def NetDelaysUptoSaid : Prop := netDelaysUptoRow.holds Try.pinned (OpenSpec.upto netDelaysSpec)

/-- 'orchardlaw17.NetSame', WHERE WHAT IT READS IS OF BULK AT MOST 1048576: true; the input reads as it did. -/
def netSameUptoRow : OpenClaim := { program := "ytaekkkcgoegllaa", sum := "63f75d1cda29c2f0e933edb223fb1066f7f7f2e6129bfa4d423f7185d6e05d82", func := "orchard/orchardlaw17.NetSame", spec := "netSame", unfollowed := true, recurses := true, apart := false, narrowed := true }
def NetSameUptoSaid : Prop := netSameUptoRow.holds Try.pinned (OpenSpec.upto netSameSpec)

/-- 'orchardlaw17.NetActs', WHERE WHAT IT READS IS OF BULK AT MOST 1048576: true; the input reads as it did. -/
def netActsUptoRow : OpenClaim := { program := "ytaekkkcgoegllaa", sum := "63f75d1cda29c2f0e933edb223fb1066f7f7f2e6129bfa4d423f7185d6e05d82", func := "orchard/orchardlaw17.NetActs", spec := "netActs", unfollowed := true, recurses := true, apart := false, narrowed := true }
def NetActsUptoSaid : Prop := netActsUptoRow.holds Try.pinned (OpenSpec.upto netActsSpec)

/-- 'orchardlaw14.MsgBytes', WHERE WHAT IT READS IS OF BULK AT MOST 1048576: true; the input reads as it did. -/
def msgBytesUptoRow : OpenClaim := { program := "ytaekkkcgoegllaa", sum := "63f75d1cda29c2f0e933edb223fb1066f7f7f2e6129bfa4d423f7185d6e05d82", func := "orchard/orchardlaw14.MsgBytes", spec := "msgBytes", unfollowed := true, recurses := true, apart := false, narrowed := true }
def MsgBytesUptoSaid : Prop := msgBytesUptoRow.holds Try.pinned (OpenSpec.upto msgBytesSpec)

/-- 'orchardlaw14.MsgReads', WHERE WHAT IT READS IS OF BULK AT MOST 1048576: true; the input reads as it did. -/
def msgReadsUptoRow : OpenClaim := { program := "ytaekkkcgoegllaa", sum := "63f75d1cda29c2f0e933edb223fb1066f7f7f2e6129bfa4d423f7185d6e05d82", func := "orchard/orchardlaw14.MsgReads", spec := "msgReads", unfollowed := true, recurses := true, apart := false, narrowed := true }
def MsgReadsUptoSaid : Prop := msgReadsUptoRow.holds Try.pinned (OpenSpec.upto msgReadsSpec)

/-- 'orchardlaw14.MsgApart', WHERE WHAT IT READS IS OF BULK AT MOST 1048576: true; the input reads as it did. -/
def msgApartUptoRow : OpenClaim := { program := "ytaekkkcgoegllaa", sum := "63f75d1cda29c2f0e933edb223fb1066f7f7f2e6129bfa4d423f7185d6e05d82", func := "orchard/orchardlaw14.MsgApart", spec := "msgApart", unfollowed := true, recurses := true, apart := false, narrowed := true }
def MsgApartUptoSaid : Prop := msgApartUptoRow.holds Try.pinned (OpenSpec.upto msgApartSpec)

/-- 'orchardlaw14.MsgLimits', WHERE WHAT IT READS IS OF BULK AT MOST 1048576: true; the input reads as it did. -/
def msgLimitsUptoRow : OpenClaim := { program := "ytaekkkcgoegllaa", sum := "63f75d1cda29c2f0e933edb223fb1066f7f7f2e6129bfa4d423f7185d6e05d82", func := "orchard/orchardlaw14.MsgLimits", spec := "msgLimits", apart := false, narrowed := true }
def MsgLimitsUptoSaid : Prop := msgLimitsUptoRow.holds Try.pinned (OpenSpec.upto msgLimitsSpec)

/-- 'orchardlaw14.MsgTurned', WHERE WHAT IT READS IS OF BULK AT MOST 1048576: true; the input reads as it did. -/
def msgTurnedUptoRow : OpenClaim := { program := "ytaekkkcgoegllaa", sum := "63f75d1cda29c2f0e933edb223fb1066f7f7f2e6129bfa4d423f7185d6e05d82", func := "orchard/orchardlaw14.MsgTurned", spec := "msgTurned", unfollowed := true, recurses := true, apart := false, narrowed := true }
def MsgTurnedUptoSaid : Prop := msgTurnedUptoRow.holds Try.pinned (OpenSpec.upto msgTurnedSpec)

end Rows
end Go.Proofs.Ytaekkkcgoegllaa
