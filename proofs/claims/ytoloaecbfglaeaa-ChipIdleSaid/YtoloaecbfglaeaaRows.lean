/-
  No cell of these rows narrows 'for every input' (looked for: loops, veiled, ifaces, maps, wideKeys, modest, calm, conditions, laid).
  DERIVED. THE GIVEN ROWS OF THIS SEAT. 8 by the template 'for every input the law returns true; each argument reads behind the call as it read before'; 0 by the template 'total and deterministic' (their statements: YtoloaecbfglaeaaTotals.lean).
  GIVEN WITH THE SEED: the statements are not yours to turn. If you find one false, say at which input.
  Laid BY PROGRAM, IN A SANDBOX (cutbox-rows.mjs): the forced cells as the released guide's own fill.sh prints them over the translation 25942eb602607bf0… (all of the seat's roots in one cut). By AI agents, Wed Nov 11 2026. No macro, syntax, notation, axiom, sorry.
-/
import Derived.Test.YtoloaecbfglaeaaChecked
import GoSem.Claim
import GoSem.ClaimJoined
import GoSem.ClaimMapViews
import Derived.JoinedTies
import Derived.KernelRfl
namespace Go.Proofs.Ytoloaecbfglaeaa
/- THE CELL 'sum', in the pinned program and in every row, IS THE sha256 OF THE DUMP (.gsa) THAT YtoloaecbfglaeaaProg.lean LOADS. Nothing in Lean hashes anything: it is a label: what it is worth is what the hold of that sum in a sandbox is worth. -/
noncomputable def Try.pinned : Pinned := { name := "ytoloaecbfglaeaa", sum := "25942eb602607bf01020f21bcfea889ca98d65096302e527f06e0fe971a00f2b", checked := Try.checked }
namespace Rows
def none {H : Type} : Left H := { results := [], args := [] }

/-- 'filigreelaw31.BitfileCheck': WHATEVER THE INPUT: true; the input reads as it did. -/
def bitfileCheckSpec : ChangeSpec := { name := "bitfileCheck", fn := fun _ => fun
  | [d1, d2] => { results := [.lit (.bool true)], args := [d1, d2] }
  | _ => none }
def bitfileCheckRow : OpenClaim := { program := "ytoloaecbfglaeaa", sum := "25942eb602607bf01020f21bcfea889ca98d65096302e527f06e0fe971a00f2b", func := "filigree/filigreelaw31.BitfileCheck", spec := "bitfileCheck", unfollowed := true, recurses := true, apart := false }
def BitfileCheckSaid : Prop := bitfileCheckRow.holds Try.pinned (OpenSpec.ofChange bitfileCheckSpec)

/-- ITS FALSE NEIGHBOUR: 'it returns false'. Refute it at one input. -/
def bitfileCheckWrong : ChangeSpec := { name := "bitfileCheck", fn := fun _ => fun
  | [d1, d2] => { results := [.lit (.bool false)], args := [d1, d2] }
  | _ => none }
def BitfileCheckWrongFalsely : Prop := bitfileCheckRow.holds Try.pinned (OpenSpec.ofChange bitfileCheckWrong)

/-- 'filigreelaw31.BitfileBytes': WHATEVER THE INPUT: true; the input reads as it did. -/
def bitfileBytesSpec : ChangeSpec := { name := "bitfileBytes", fn := fun _ => fun
  | [d1, d2] => { results := [.lit (.bool true)], args := [d1, d2] }
  | _ => none }
def bitfileBytesRow : OpenClaim := { program := "ytoloaecbfglaeaa", sum := "25942eb602607bf01020f21bcfea889ca98d65096302e527f06e0fe971a00f2b", func := "filigree/filigreelaw31.BitfileBytes", spec := "bitfileBytes", unfollowed := true, recurses := true, apart := false }
def BitfileBytesSaid : Prop := bitfileBytesRow.holds Try.pinned (OpenSpec.ofChange bitfileBytesSpec)

/-- ITS FALSE NEIGHBOUR: 'it returns false'. Refute it at one input. -/
def bitfileBytesWrong : ChangeSpec := { name := "bitfileBytes", fn := fun _ => fun
  | [d1, d2] => { results := [.lit (.bool false)], args := [d1, d2] }
  | _ => none }
def BitfileBytesWrongFalsely : Prop := bitfileBytesRow.holds Try.pinned (OpenSpec.ofChange bitfileBytesWrong)

/-- 'filigreelaw31.BitfileBack': WHATEVER THE INPUT: true; the input reads as it did. -/
def bitfileBackSpec : ChangeSpec := { name := "bitfileBack", fn := fun _ => fun
  | [d1, d2, d3] => { results := [.lit (.bool true)], args := [d1, d2, d3] }
  | _ => none }
def bitfileBackRow : OpenClaim := { program := "ytoloaecbfglaeaa", sum := "25942eb602607bf01020f21bcfea889ca98d65096302e527f06e0fe971a00f2b", func := "filigree/filigreelaw31.BitfileBack", spec := "bitfileBack", unfollowed := true, recurses := true, apart := false }
def BitfileBackSaid : Prop := bitfileBackRow.holds Try.pinned (OpenSpec.ofChange bitfileBackSpec)

/-- ITS FALSE NEIGHBOUR: 'it returns false'. Refute it at one input. -/
def bitfileBackWrong : ChangeSpec := { name := "bitfileBack", fn := fun _ => fun
  | [d1, d2, d3] => { results := [.lit (.bool false)], args := [d1, d2, d3] }
  | _ => none }
def BitfileBackWrongFalsely : Prop := bitfileBackRow.holds Try.pinned (OpenSpec.ofChange bitfileBackWrong)

/-- 'filigreelaw31.BitfileOnly': WHATEVER THE INPUT: true; the input reads as it did. -/
def bitfileOnlySpec : ChangeSpec := { name := "bitfileOnly", fn := fun _ => fun
  | [d] => { results := [.lit (.bool true)], args := [d] }
  | _ => none }
def bitfileOnlyRow : OpenClaim := { program := "ytoloaecbfglaeaa", sum := "25942eb602607bf01020f21bcfea889ca98d65096302e527f06e0fe971a00f2b", func := "filigree/filigreelaw31.BitfileOnly", spec := "bitfileOnly", unfollowed := true, recurses := true, apart := false }
def BitfileOnlySaid : Prop := bitfileOnlyRow.holds Try.pinned (OpenSpec.ofChange bitfileOnlySpec)

/-- ITS FALSE NEIGHBOUR: 'it returns false'. Refute it at one input. -/
def bitfileOnlyWrong : ChangeSpec := { name := "bitfileOnly", fn := fun _ => fun
  | [d] => { results := [.lit (.bool false)], args := [d] }
  | _ => none }
def BitfileOnlyWrongFalsely : Prop := bitfileOnlyRow.holds Try.pinned (OpenSpec.ofChange bitfileOnlyWrong)

/-- 'filigreelaw31.BitfileSeen': WHATEVER THE INPUT: true; the input reads as it did. -/
def bitfileSeenSpec : ChangeSpec := { name := "bitfileSeen", fn := fun _ => fun
  | [d1, d2, d3] => { results := [.lit (.bool true)], args := [d1, d2, d3] }
  | _ => none }
def bitfileSeenRow : OpenClaim := { program := "ytoloaecbfglaeaa", sum := "25942eb602607bf01020f21bcfea889ca98d65096302e527f06e0fe971a00f2b", func := "filigree/filigreelaw31.BitfileSeen", spec := "bitfileSeen", unfollowed := true, recurses := true, apart := false }
def BitfileSeenSaid : Prop := bitfileSeenRow.holds Try.pinned (OpenSpec.ofChange bitfileSeenSpec)

/-- ITS FALSE NEIGHBOUR: 'it returns false'. Refute it at one input. -/
def bitfileSeenWrong : ChangeSpec := { name := "bitfileSeen", fn := fun _ => fun
  | [d1, d2, d3] => { results := [.lit (.bool false)], args := [d1, d2, d3] }
  | _ => none }
def BitfileSeenWrongFalsely : Prop := bitfileSeenRow.holds Try.pinned (OpenSpec.ofChange bitfileSeenWrong)

/-- 'filigreelaw31.BitfileSum': WHATEVER THE INPUT: true; the input reads as it did. -/
def bitfileSumSpec : ChangeSpec := { name := "bitfileSum", fn := fun _ => fun
  | [d1, d2, d3, d4] => { results := [.lit (.bool true)], args := [d1, d2, d3, d4] }
  | _ => none }
def bitfileSumRow : OpenClaim := { program := "ytoloaecbfglaeaa", sum := "25942eb602607bf01020f21bcfea889ca98d65096302e527f06e0fe971a00f2b", func := "filigree/filigreelaw31.BitfileSum", spec := "bitfileSum", unfollowed := true, recurses := true, apart := false }
def BitfileSumSaid : Prop := bitfileSumRow.holds Try.pinned (OpenSpec.ofChange bitfileSumSpec)

/-- ITS FALSE NEIGHBOUR: 'it returns false'. Refute it at one input. -/
def bitfileSumWrong : ChangeSpec := { name := "bitfileSum", fn := fun _ => fun
  | [d1, d2, d3, d4] => { results := [.lit (.bool false)], args := [d1, d2, d3, d4] }
  | _ => none }
def BitfileSumWrongFalsely : Prop := bitfileSumRow.holds Try.pinned (OpenSpec.ofChange bitfileSumWrong)

/-- 'filigreelaw32.ChipOff': WHATEVER THE INPUT: true; the input reads as it did. -/
def chipOffSpec : ChangeSpec := { name := "chipOff", fn := fun _ => fun
  | [d] => { results := [.lit (.bool true)], args := [d] }
  | _ => none }
def chipOffRow : OpenClaim := { program := "ytoloaecbfglaeaa", sum := "25942eb602607bf01020f21bcfea889ca98d65096302e527f06e0fe971a00f2b", func := "filigree/filigreelaw32.ChipOff", spec := "chipOff", unfollowed := true, recurses := true, apart := false }
def ChipOffSaid : Prop := chipOffRow.holds Try.pinned (OpenSpec.ofChange chipOffSpec)

/-- ITS FALSE NEIGHBOUR: 'it returns false'. Refute it at one input. -/
def chipOffWrong : ChangeSpec := { name := "chipOff", fn := fun _ => fun
  | [d] => { results := [.lit (.bool false)], args := [d] }
  | _ => none }
def ChipOffWrongFalsely : Prop := chipOffRow.holds Try.pinned (OpenSpec.ofChange chipOffWrong)

/-- 'filigreelaw32.ChipIdle': WHATEVER THE INPUT: true; the input reads as it did. -/
def chipIdleSpec : ChangeSpec := { name := "chipIdle", fn := fun _ => fun
  | [d1, d2, d3, d4] => { results := [.lit (.bool true)], args := [d1, d2, d3, d4] }
  | _ => none }
def chipIdleRow : OpenClaim := { program := "ytoloaecbfglaeaa", sum := "25942eb602607bf01020f21bcfea889ca98d65096302e527f06e0fe971a00f2b", func := "filigree/filigreelaw32.ChipIdle", spec := "chipIdle", unfollowed := true, recurses := true, apart := false }
def ChipIdleSaid : Prop := chipIdleRow.holds Try.pinned (OpenSpec.ofChange chipIdleSpec)

/-- ITS FALSE NEIGHBOUR: 'it returns false'. Refute it at one input. -/
def chipIdleWrong : ChangeSpec := { name := "chipIdle", fn := fun _ => fun
  | [d1, d2, d3, d4] => { results := [.lit (.bool false)], args := [d1, d2, d3, d4] }
  | _ => none }
def ChipIdleWrongFalsely : Prop := chipIdleRow.holds Try.pinned (OpenSpec.ofChange chipIdleWrong)

/- THE SECOND FORM. 'bulk': how many values and letters a reading holds, each counted each time it is reached (what is shared counts as often as it is met; a slice's spare places count too). A statement '..UptoSaid' is the law's where the arguments, and the package variables that the reading takes, are together of bulk at most 1048576: NARROWER than '..Said'. Prove '..Said' where nothing that the law and all that it calls make is longer than what came in: it says more and counts as full. Else prove '..UptoSaid'. A law counts once. -/
mutual
def uptoBulk {H : Type} : DataW H → Nat
  | .lit (.string bytes) => bytes.length + 1
  | .lit _ => 1
  | .nil => 1
  | .ptr d => uptoBulk d + 1
  | .slice elems spare => uptoBulkAll elems + uptoBulkAll spare + 1
  | .agg parts => uptoBulkAll parts + 1
  | .iface _ d => uptoBulk d + 1
  | .map entries => uptoBulkEntries entries + 1
  | .held _ => 1
def uptoBulkAll {H : Type} : List (DataW H) → Nat
  | [] => 0
  | d :: r => uptoBulk d + uptoBulkAll r
def uptoBulkEntries {H : Type} : List (Lit × DataW H) → Nat
  | [] => 0
  | x :: r => uptoBulkEntry x + uptoBulkEntries r
def uptoBulkEntry {H : Type} : Lit × DataW H → Nat
  | (.string bytes, d) => bytes.length + uptoBulk d + 1
  | (_, d) => uptoBulk d + 1
 end
def uptoSmall : (H : Type) → List (DataW H) → Bool := fun _ ds => decide (uptoBulkAll ds ≤ 1048576)
def OpenSpec.upto (s : _root_.Go.ChangeSpec) : _root_.Go.OpenSpec := { _root_.Go.OpenSpec.ofChange s with cond := some uptoSmall }

/-- 'filigreelaw31.BitfileCheck', WHERE WHAT IT READS IS OF BULK AT MOST 1048576: true; the input reads as it did. -/
def bitfileCheckUptoRow : OpenClaim := { program := "ytoloaecbfglaeaa", sum := "25942eb602607bf01020f21bcfea889ca98d65096302e527f06e0fe971a00f2b", func := "filigree/filigreelaw31.BitfileCheck", spec := "bitfileCheck", unfollowed := true, recurses := true, apart := false, narrowed := true }
def BitfileCheckUptoSaid : Prop := bitfileCheckUptoRow.holds Try.pinned (OpenSpec.upto bitfileCheckSpec)

/-- 'filigreelaw31.BitfileBytes', WHERE WHAT IT READS IS OF BULK AT MOST 1048576: true; the input reads as it did. -/
def bitfileBytesUptoRow : OpenClaim := { program := "ytoloaecbfglaeaa", sum := "25942eb602607bf01020f21bcfea889ca98d65096302e527f06e0fe971a00f2b", func := "filigree/filigreelaw31.BitfileBytes", spec := "bitfileBytes", unfollowed := true, recurses := true, apart := false, narrowed := true }
def BitfileBytesUptoSaid : Prop := bitfileBytesUptoRow.holds Try.pinned (OpenSpec.upto bitfileBytesSpec)

/-- 'filigreelaw31.BitfileBack', WHERE WHAT IT READS IS OF BULK AT MOST 1048576: true; the input reads as it did. -/
def bitfileBackUptoRow : OpenClaim := { program := "ytoloaecbfglaeaa", sum := "25942eb602607bf01020f21bcfea889ca98d65096302e527f06e0fe971a00f2b", func := "filigree/filigreelaw31.BitfileBack", spec := "bitfileBack", unfollowed := true, recurses := true, apart := false, narrowed := true }
def BitfileBackUptoSaid : Prop := bitfileBackUptoRow.holds Try.pinned (OpenSpec.upto bitfileBackSpec)

/-- 'filigreelaw31.BitfileOnly', WHERE WHAT IT READS IS OF BULK AT MOST 1048576: true; the input reads as it did. -/
def bitfileOnlyUptoRow : OpenClaim := { program := "ytoloaecbfglaeaa", sum := "25942eb602607bf01020f21bcfea889ca98d65096302e527f06e0fe971a00f2b", func := "filigree/filigreelaw31.BitfileOnly", spec := "bitfileOnly", unfollowed := true, recurses := true, apart := false, narrowed := true }
def BitfileOnlyUptoSaid : Prop := bitfileOnlyUptoRow.holds Try.pinned (OpenSpec.upto bitfileOnlySpec)

/-- 'filigreelaw31.BitfileSeen', WHERE WHAT IT READS IS OF BULK AT MOST 1048576: true; the input reads as it did. -/
def bitfileSeenUptoRow : OpenClaim := { program := "ytoloaecbfglaeaa", sum := "25942eb602607bf01020f21bcfea889ca98d65096302e527f06e0fe971a00f2b", func := "filigree/filigreelaw31.BitfileSeen", spec := "bitfileSeen", unfollowed := true, recurses := true, apart := false, narrowed := true }
def BitfileSeenUptoSaid : Prop := bitfileSeenUptoRow.holds Try.pinned (OpenSpec.upto bitfileSeenSpec)

/-- 'filigreelaw31.BitfileSum', WHERE WHAT IT READS IS OF BULK AT MOST 1048576: true; the input reads as it did. -/
def bitfileSumUptoRow : OpenClaim := { program := "ytoloaecbfglaeaa", sum := "25942eb602607bf01020f21bcfea889ca98d65096302e527f06e0fe971a00f2b", func := "filigree/filigreelaw31.BitfileSum", spec := "bitfileSum", unfollowed := true, recurses := true, apart := false, narrowed := true }
def BitfileSumUptoSaid : Prop := bitfileSumUptoRow.holds Try.pinned (OpenSpec.upto bitfileSumSpec)

/-- 'filigreelaw32.ChipOff', WHERE WHAT IT READS IS OF BULK AT MOST 1048576: true; the input reads as it did. -/
def chipOffUptoRow : OpenClaim := { program := "ytoloaecbfglaeaa", sum := "25942eb602607bf01020f21bcfea889ca98d65096302e527f06e0fe971a00f2b", func := "filigree/filigreelaw32.ChipOff", spec := "chipOff", unfollowed := true, recurses := true, apart := false, narrowed := true }
def ChipOffUptoSaid : Prop := chipOffUptoRow.holds Try.pinned (OpenSpec.upto chipOffSpec)

/-- 'filigreelaw32.ChipIdle', WHERE WHAT IT READS IS OF BULK AT MOST 1048576: true; the input reads as it did. -/
def chipIdleUptoRow : OpenClaim := { program := "ytoloaecbfglaeaa", sum := "25942eb602607bf01020f21bcfea889ca98d65096302e527f06e0fe971a00f2b", func := "filigree/filigreelaw32.ChipIdle", spec := "chipIdle", unfollowed := true, recurses := true, apart := false, narrowed := true }
def ChipIdleUptoSaid : Prop := chipIdleUptoRow.holds Try.pinned (OpenSpec.upto chipIdleSpec)

end Rows
end Go.Proofs.Ytoloaecbfglaeaa
