/-
  No cell of these rows narrows 'for every input' (looked for: loops, veiled, ifaces, maps, wideKeys, modest, calm, conditions, laid).
  DERIVED. THE GIVEN ROWS OF THIS SEAT. 9 by the template 'for every input the law returns true; each argument reads behind the call as it read before'; 0 by the template 'total and deterministic' (their statements: YtpfhokhkbedkbaaTotals.lean).
  GIVEN WITH THE SEED: the statements are not yours to turn. If you find one false, say at which input.
  Laid BY PROGRAM, IN A SANDBOX (cutbox-rows.mjs): the forced cells as the released guide's own fill.sh prints them over the translation 399667f5fc4aae50… (all of the seat's roots in one cut). By AI agents, Wed Nov 11 2026. No macro, syntax, notation, axiom, sorry.
-/
import Derived.Test.YtpfhokhkbedkbaaChecked
import GoSem.Claim
import GoSem.ClaimJoined
import GoSem.ClaimMapViews
import Derived.JoinedTies
import Derived.KernelRfl
namespace Go.Proofs.Ytpfhokhkbedkbaa
/- THE CELL 'sum', in the pinned program and in every row, IS THE sha256 OF THE DUMP (.gsa) THAT YtpfhokhkbedkbaaProg.lean LOADS. Nothing in Lean hashes anything: it is a label: what it is worth is what the hold of that sum in a sandbox is worth. -/
noncomputable def Try.pinned : Pinned := { name := "ytpfhokhkbedkbaa", sum := "399667f5fc4aae50a42fba1b31d135357433c43650a0d378e18747ca1e4ccdca", checked := Try.checked }
namespace Rows
def none {H : Type} : Left H := { results := [], args := [] }

/-- 'filigreelaw28.FabricWhat': WHATEVER THE INPUT: true; the input reads as it did. -/
def fabricWhatSpec : ChangeSpec := { name := "fabricWhat", fn := fun _ => fun
  | [d1, d2] => { results := [.lit (.bool true)], args := [d1, d2] }
  | _ => none }
def fabricWhatRow : OpenClaim := { program := "ytpfhokhkbedkbaa", sum := "399667f5fc4aae50a42fba1b31d135357433c43650a0d378e18747ca1e4ccdca", func := "filigree/filigreelaw28.FabricWhat", spec := "fabricWhat", apart := false }
def FabricWhatSaid : Prop := fabricWhatRow.holds Try.pinned (OpenSpec.ofChange fabricWhatSpec)

/-- ITS FALSE NEIGHBOUR: 'it returns false'. Refute it at one input. -/
def fabricWhatWrong : ChangeSpec := { name := "fabricWhat", fn := fun _ => fun
  | [d1, d2] => { results := [.lit (.bool false)], args := [d1, d2] }
  | _ => none }
def FabricWhatWrongFalsely : Prop := fabricWhatRow.holds Try.pinned (OpenSpec.ofChange fabricWhatWrong)

/-- 'filigreelaw28.FabricTells': WHATEVER THE INPUT: true; the input reads as it did. -/
def fabricTellsSpec : ChangeSpec := { name := "fabricTells", fn := fun _ => fun
  | [d1, d2, d3, d4] => { results := [.lit (.bool true)], args := [d1, d2, d3, d4] }
  | _ => none }
def fabricTellsRow : OpenClaim := { program := "ytpfhokhkbedkbaa", sum := "399667f5fc4aae50a42fba1b31d135357433c43650a0d378e18747ca1e4ccdca", func := "filigree/filigreelaw28.FabricTells", spec := "fabricTells", apart := false }
def FabricTellsSaid : Prop := fabricTellsRow.holds Try.pinned (OpenSpec.ofChange fabricTellsSpec)

/-- ITS FALSE NEIGHBOUR: 'it returns false'. Refute it at one input. -/
def fabricTellsWrong : ChangeSpec := { name := "fabricTells", fn := fun _ => fun
  | [d1, d2, d3, d4] => { results := [.lit (.bool false)], args := [d1, d2, d3, d4] }
  | _ => none }
def FabricTellsWrongFalsely : Prop := fabricTellsRow.holds Try.pinned (OpenSpec.ofChange fabricTellsWrong)

/-- 'filigreelaw28.FabricBack': WHATEVER THE INPUT: true; the input reads as it did. -/
def fabricBackSpec : ChangeSpec := { name := "fabricBack", fn := fun _ => fun
  | [d1, d2, d3, d4, d5, d6] => { results := [.lit (.bool true)], args := [d1, d2, d3, d4, d5, d6] }
  | _ => none }
def fabricBackRow : OpenClaim := { program := "ytpfhokhkbedkbaa", sum := "399667f5fc4aae50a42fba1b31d135357433c43650a0d378e18747ca1e4ccdca", func := "filigree/filigreelaw28.FabricBack", spec := "fabricBack", apart := false }
def FabricBackSaid : Prop := fabricBackRow.holds Try.pinned (OpenSpec.ofChange fabricBackSpec)

/-- ITS FALSE NEIGHBOUR: 'it returns false'. Refute it at one input. -/
def fabricBackWrong : ChangeSpec := { name := "fabricBack", fn := fun _ => fun
  | [d1, d2, d3, d4, d5, d6] => { results := [.lit (.bool false)], args := [d1, d2, d3, d4, d5, d6] }
  | _ => none }
def FabricBackWrongFalsely : Prop := fabricBackRow.holds Try.pinned (OpenSpec.ofChange fabricBackWrong)

/-- 'filigreelaw28.FabricKinds': WHATEVER THE INPUT: true; the input reads as it did. -/
def fabricKindsSpec : ChangeSpec := { name := "fabricKinds", fn := fun _ => fun
  | [d] => { results := [.lit (.bool true)], args := [d] }
  | _ => none }
def fabricKindsRow : OpenClaim := { program := "ytpfhokhkbedkbaa", sum := "399667f5fc4aae50a42fba1b31d135357433c43650a0d378e18747ca1e4ccdca", func := "filigree/filigreelaw28.FabricKinds", spec := "fabricKinds", unfollowed := true, recurses := true, apart := false }
def FabricKindsSaid : Prop := fabricKindsRow.holds Try.pinned (OpenSpec.ofChange fabricKindsSpec)

/-- ITS FALSE NEIGHBOUR: 'it returns false'. Refute it at one input. -/
def fabricKindsWrong : ChangeSpec := { name := "fabricKinds", fn := fun _ => fun
  | [d] => { results := [.lit (.bool false)], args := [d] }
  | _ => none }
def FabricKindsWrongFalsely : Prop := fabricKindsRow.holds Try.pinned (OpenSpec.ofChange fabricKindsWrong)

/-- 'filigreelaw28.FabricReach': WHATEVER THE INPUT: true; the input reads as it did. -/
def fabricReachSpec : ChangeSpec := { name := "fabricReach", fn := fun _ => fun
  | [d1, d2] => { results := [.lit (.bool true)], args := [d1, d2] }
  | _ => none }
def fabricReachRow : OpenClaim := { program := "ytpfhokhkbedkbaa", sum := "399667f5fc4aae50a42fba1b31d135357433c43650a0d378e18747ca1e4ccdca", func := "filigree/filigreelaw28.FabricReach", spec := "fabricReach", unfollowed := true, recurses := true, apart := false }
def FabricReachSaid : Prop := fabricReachRow.holds Try.pinned (OpenSpec.ofChange fabricReachSpec)

/-- ITS FALSE NEIGHBOUR: 'it returns false'. Refute it at one input. -/
def fabricReachWrong : ChangeSpec := { name := "fabricReach", fn := fun _ => fun
  | [d1, d2] => { results := [.lit (.bool false)], args := [d1, d2] }
  | _ => none }
def FabricReachWrongFalsely : Prop := fabricReachRow.holds Try.pinned (OpenSpec.ofChange fabricReachWrong)

/-- 'filigreelaw28.FabricCounts': WHATEVER THE INPUT: true; the input reads as it did. -/
def fabricCountsSpec : ChangeSpec := { name := "fabricCounts", fn := fun _ => fun
  | [d] => { results := [.lit (.bool true)], args := [d] }
  | _ => none }
def fabricCountsRow : OpenClaim := { program := "ytpfhokhkbedkbaa", sum := "399667f5fc4aae50a42fba1b31d135357433c43650a0d378e18747ca1e4ccdca", func := "filigree/filigreelaw28.FabricCounts", spec := "fabricCounts", unfollowed := true, recurses := true, apart := false }
def FabricCountsSaid : Prop := fabricCountsRow.holds Try.pinned (OpenSpec.ofChange fabricCountsSpec)

/-- ITS FALSE NEIGHBOUR: 'it returns false'. Refute it at one input. -/
def fabricCountsWrong : ChangeSpec := { name := "fabricCounts", fn := fun _ => fun
  | [d] => { results := [.lit (.bool false)], args := [d] }
  | _ => none }
def FabricCountsWrongFalsely : Prop := fabricCountsRow.holds Try.pinned (OpenSpec.ofChange fabricCountsWrong)

/-- 'filigreelaw32.ChipEdges': WHATEVER THE INPUT: true; the input reads as it did. -/
def chipEdgesSpec : ChangeSpec := { name := "chipEdges", fn := fun _ => fun
  | [d] => { results := [.lit (.bool true)], args := [d] }
  | _ => none }
def chipEdgesRow : OpenClaim := { program := "ytpfhokhkbedkbaa", sum := "399667f5fc4aae50a42fba1b31d135357433c43650a0d378e18747ca1e4ccdca", func := "filigree/filigreelaw32.ChipEdges", spec := "chipEdges", unfollowed := true, recurses := true, apart := false }
def ChipEdgesSaid : Prop := chipEdgesRow.holds Try.pinned (OpenSpec.ofChange chipEdgesSpec)

/-- ITS FALSE NEIGHBOUR: 'it returns false'. Refute it at one input. -/
def chipEdgesWrong : ChangeSpec := { name := "chipEdges", fn := fun _ => fun
  | [d] => { results := [.lit (.bool false)], args := [d] }
  | _ => none }
def ChipEdgesWrongFalsely : Prop := chipEdgesRow.holds Try.pinned (OpenSpec.ofChange chipEdgesWrong)

/-- 'filigreelaw32.ChipJoins': WHATEVER THE INPUT: true; the input reads as it did. -/
def chipJoinsSpec : ChangeSpec := { name := "chipJoins", fn := fun _ => fun
  | [d] => { results := [.lit (.bool true)], args := [d] }
  | _ => none }
def chipJoinsRow : OpenClaim := { program := "ytpfhokhkbedkbaa", sum := "399667f5fc4aae50a42fba1b31d135357433c43650a0d378e18747ca1e4ccdca", func := "filigree/filigreelaw32.ChipJoins", spec := "chipJoins", unfollowed := true, recurses := true, apart := false }
def ChipJoinsSaid : Prop := chipJoinsRow.holds Try.pinned (OpenSpec.ofChange chipJoinsSpec)

/-- ITS FALSE NEIGHBOUR: 'it returns false'. Refute it at one input. -/
def chipJoinsWrong : ChangeSpec := { name := "chipJoins", fn := fun _ => fun
  | [d] => { results := [.lit (.bool false)], args := [d] }
  | _ => none }
def ChipJoinsWrongFalsely : Prop := chipJoinsRow.holds Try.pinned (OpenSpec.ofChange chipJoinsWrong)

/-- 'filigreelaw32.ChipShort': WHATEVER THE INPUT: true; the input reads as it did. -/
def chipShortSpec : ChangeSpec := { name := "chipShort", fn := fun _ => fun
  | [d1, d2] => { results := [.lit (.bool true)], args := [d1, d2] }
  | _ => none }
def chipShortRow : OpenClaim := { program := "ytpfhokhkbedkbaa", sum := "399667f5fc4aae50a42fba1b31d135357433c43650a0d378e18747ca1e4ccdca", func := "filigree/filigreelaw32.ChipShort", spec := "chipShort", unfollowed := true, recurses := true, apart := false }
def ChipShortSaid : Prop := chipShortRow.holds Try.pinned (OpenSpec.ofChange chipShortSpec)

/-- ITS FALSE NEIGHBOUR: 'it returns false'. Refute it at one input. -/
def chipShortWrong : ChangeSpec := { name := "chipShort", fn := fun _ => fun
  | [d1, d2] => { results := [.lit (.bool false)], args := [d1, d2] }
  | _ => none }
def ChipShortWrongFalsely : Prop := chipShortRow.holds Try.pinned (OpenSpec.ofChange chipShortWrong)

/- THE SECOND FORM. 'bulk': how many values and letters a reading holds, each counted each time it is reached (what is shared counts as often as it is met; a slice's spare places count too). A statement '..UptoSaid' is the law's where the arguments, and the package variables that the reading takes, are together of bulk at most 1048576: NARROWER than '..Said'. Prove '..Said' where nothing that the law and all that it calls make is longer than what came in: it says more and counts as full. Else prove '..UptoSaid'. A law counts once. -/
mutual
def uptoBulk {H : Type} : DataW H → Nat
  | .lit (.string bytes) => bytes.length + 1
  | .lit _ => 1
  | .nil => 1
  | .ptr d => uptoBulk d + 1
  | .slice elems spare => uptoBulkAll elems + uptoBulkAll spare + 1
  | .agg parts => uptoBulkAll parts + 1
  | .iface _ d => uptoBulk d + 1
  | .map entries => uptoBulkEntries entries + 1
  | .held _ => 1
def uptoBulkAll {H : Type} : List (DataW H) → Nat
  | [] => 0
  | d :: r => uptoBulk d + uptoBulkAll r
def uptoBulkEntries {H : Type} : List (Lit × DataW H) → Nat
  | [] => 0
  | x :: r => uptoBulkEntry x + uptoBulkEntries r
def uptoBulkEntry {H : Type} : Lit × DataW H → Nat
  | (.string bytes, d) => bytes.length + uptoBulk d + 1
  | (_, d) => uptoBulk d + 1
 end
def uptoSmall : (H : Type) → List (DataW H) → Bool := fun _ ds => decide (uptoBulkAll ds ≤ 1048576)
def OpenSpec.upto (s : _root_.Go.ChangeSpec) : _root_.Go.OpenSpec := { _root_.Go.OpenSpec.ofChange s with cond := some uptoSmall }

/-- 'filigreelaw28.FabricWhat', WHERE WHAT IT READS IS OF BULK AT MOST 1048576: true; the input reads as it did. -/
def fabricWhatUptoRow : OpenClaim := { program := "ytpfhokhkbedkbaa", sum := "399667f5fc4aae50a42fba1b31d135357433c43650a0d378e18747ca1e4ccdca", func := "filigree/filigreelaw28.FabricWhat", spec := "fabricWhat", apart := false, narrowed := true }
def FabricWhatUptoSaid : Prop := fabricWhatUptoRow.holds Try.pinned (OpenSpec.upto fabricWhatSpec)

/-- 'filigreelaw28.FabricTells', WHERE WHAT IT READS IS OF BULK AT MOST 1048576: true; the input reads as it did. -/
def fabricTellsUptoRow : OpenClaim := { program := "ytpfhokhkbedkbaa", sum := "399667f5fc4aae50a42fba1b31d135357433c43650a0d378e18747ca1e4ccdca", func := "filigree/filigreelaw28.FabricTells", spec := "fabricTells", apart := false, narrowed := true }
def FabricTellsUptoSaid : Prop := fabricTellsUptoRow.holds Try.pinned (OpenSpec.upto fabricTellsSpec)

/-- 'filigreelaw28.FabricBack', WHERE WHAT IT READS IS OF BULK AT MOST 1048576: true; the input reads as it did. -/
def fabricBackUptoRow : OpenClaim := { program := "ytpfhokhkbedkbaa", sum := "399667f5fc4aae50a42fba1b31d135357433c43650a0d378e18747ca1e4ccdca", func := "filigree/filigreelaw28.FabricBack", spec := "fabricBack", apart := false, narrowed := true }
def FabricBackUptoSaid : Prop := fabricBackUptoRow.holds Try.pinned (OpenSpec.upto fabricBackSpec)

/-- 'filigreelaw28.FabricKinds', WHERE WHAT IT READS IS OF BULK AT MOST 1048576: true; the input reads as it did. -/
def fabricKindsUptoRow : OpenClaim := { program := "ytpfhokhkbedkbaa", sum := "399667f5fc4aae50a42fba1b31d135357433c43650a0d378e18747ca1e4ccdca", func := "filigree/filigreelaw28.FabricKinds", spec := "fabricKinds", unfollowed := true, recurses := true, apart := false, narrowed := true }
def FabricKindsUptoSaid : Prop := fabricKindsUptoRow.holds Try.pinned (OpenSpec.upto fabricKindsSpec)

/-- 'filigreelaw28.FabricReach', WHERE WHAT IT READS IS OF BULK AT MOST 1048576: true; the input reads as it did. -/
def fabricReachUptoRow : OpenClaim := { program := "ytpfhokhkbedkbaa", sum := "399667f5fc4aae50a42fba1b31d135357433c43650a0d378e18747ca1e4ccdca", func := "filigree/filigreelaw28.FabricReach", spec := "fabricReach", unfollowed := true, recurses := true, apart := false, narrowed := true }
def FabricReachUptoSaid : Prop := fabricReachUptoRow.holds Try.pinned (OpenSpec.upto fabricReachSpec)

/-- 'filigreelaw28.FabricCounts', WHERE WHAT IT READS IS OF BULK AT MOST 1048576: true; the input reads as it did. -/
def fabricCountsUptoRow : OpenClaim := { program := "ytpfhokhkbedkbaa", sum := "399667f5fc4aae50a42fba1b31d135357433c43650a0d378e18747ca1e4ccdca", func := "filigree/filigreelaw28.FabricCounts", spec := "fabricCounts", unfollowed := true, recurses := true, apart := false, narrowed := true }
def FabricCountsUptoSaid : Prop := fabricCountsUptoRow.holds Try.pinned (OpenSpec.upto fabricCountsSpec)

/-- 'filigreelaw32.ChipEdges', WHERE WHAT IT READS IS OF BULK AT MOST 1048576: true; the input reads as it did. -/
def chipEdgesUptoRow : OpenClaim := { program := "ytpfhokhkbedkbaa", sum := "399667f5fc4aae50a42fba1b31d135357433c43650a0d378e18747ca1e4ccdca", func := "filigree/filigreelaw32.ChipEdges", spec := "chipEdges", unfollowed := true, recurses := true, apart := false, narrowed := true }
def ChipEdgesUptoSaid : Prop := chipEdgesUptoRow.holds Try.pinned (OpenSpec.upto chipEdgesSpec)

/-- 'filigreelaw32.ChipJoins', WHERE WHAT IT READS IS OF BULK AT MOST 1048576: true; the input reads as it did. -/
def chipJoinsUptoRow : OpenClaim := { program := "ytpfhokhkbedkbaa", sum := "399667f5fc4aae50a42fba1b31d135357433c43650a0d378e18747ca1e4ccdca", func := "filigree/filigreelaw32.ChipJoins", spec := "chipJoins", unfollowed := true, recurses := true, apart := false, narrowed := true }
def ChipJoinsUptoSaid : Prop := chipJoinsUptoRow.holds Try.pinned (OpenSpec.upto chipJoinsSpec)

/-- 'filigreelaw32.ChipShort', WHERE WHAT IT READS IS OF BULK AT MOST 1048576: true; the input reads as it did. -/
def chipShortUptoRow : OpenClaim := { program := "ytpfhokhkbedkbaa", sum := "399667f5fc4aae50a42fba1b31d135357433c43650a0d378e18747ca1e4ccdca", func := "filigree/filigreelaw32.ChipShort", spec := "chipShort", unfollowed := true, recurses := true, apart := false, narrowed := true }
def ChipShortUptoSaid : Prop := chipShortUptoRow.holds Try.pinned (OpenSpec.upto chipShortSpec)

end Rows
end Go.Proofs.Ytpfhokhkbedkbaa
