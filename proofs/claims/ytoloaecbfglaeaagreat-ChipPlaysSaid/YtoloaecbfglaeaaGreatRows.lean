/-
  No cell of these rows narrows 'for every input' (looked for: loops, veiled, ifaces, maps, wideKeys, modest, calm, conditions, laid).
  DERIVED. THE GIVEN ROWS OF THIS SEAT. 4 by the template 'for every input the law returns true; each argument reads behind the call as it read before'; 0 by the template 'total and deterministic' (their statements: YtoloaecbfglaeaaGreatTotals.lean).
  GIVEN WITH THE SEED: the statements are not yours to turn. If you find one false, say at which input.
  Laid BY PROGRAM, IN A SANDBOX (cutbox-rows.mjs): the forced cells as the released guide's own fill.sh prints them over the translation bc29eb5ed2599660… (all of the seat's roots in one cut). By AI agents, Wed Nov 11 2026. No macro, syntax, notation, axiom, sorry.
-/
import Derived.Test.YtoloaecbfglaeaaGreatChecked
import GoSem.Claim
import GoSem.ClaimJoined
import GoSem.ClaimMapViews
import Derived.JoinedTies
import Derived.KernelRfl
namespace Go.Proofs.YtoloaecbfglaeaaGreat
/- THE CELL 'sum', in the pinned program and in every row, IS THE sha256 OF THE DUMP (.gsa) THAT YtoloaecbfglaeaaGreatProg.lean LOADS. Nothing in Lean hashes anything: it is a label: what it is worth is what the hold of that sum in a sandbox is worth. -/
noncomputable def Tryz.pinned : Pinned := { name := "ytoloaecbfglaeaagreat", sum := "bc29eb5ed25996601871d703a2f02c5c8394f5117a697b80b650051229c5cde8", checked := Tryz.checked }
namespace Rows
def none {H : Type} : Left H := { results := [], args := [] }

/-- 'filigreelaw32.ChipReads': WHATEVER THE INPUT: true; the input reads as it did. -/
def chipReadsSpec : ChangeSpec := { name := "chipReads", fn := fun _ => fun
  | [d] => { results := [.lit (.bool true)], args := [d] }
  | _ => none }
def chipReadsRow : OpenClaim := { program := "ytoloaecbfglaeaagreat", sum := "bc29eb5ed25996601871d703a2f02c5c8394f5117a697b80b650051229c5cde8", func := "filigree/filigreelaw32.ChipReads", spec := "chipReads", unfollowed := true, recurses := true, apart := false }
def ChipReadsSaid : Prop := chipReadsRow.holds Tryz.pinned (OpenSpec.ofChange chipReadsSpec)

/-- ITS FALSE NEIGHBOUR: 'it returns false'. Refute it at one input. -/
def chipReadsWrong : ChangeSpec := { name := "chipReads", fn := fun _ => fun
  | [d] => { results := [.lit (.bool false)], args := [d] }
  | _ => none }
def ChipReadsWrongFalsely : Prop := chipReadsRow.holds Tryz.pinned (OpenSpec.ofChange chipReadsWrong)

/-- 'filigreelaw32.ChipEvals': WHATEVER THE INPUT: true; the input reads as it did. -/
def chipEvalsSpec : ChangeSpec := { name := "chipEvals", fn := fun _ => fun
  | [d1, d2, d3] => { results := [.lit (.bool true)], args := [d1, d2, d3] }
  | _ => none }
def chipEvalsRow : OpenClaim := { program := "ytoloaecbfglaeaagreat", sum := "bc29eb5ed25996601871d703a2f02c5c8394f5117a697b80b650051229c5cde8", func := "filigree/filigreelaw32.ChipEvals", spec := "chipEvals", unfollowed := true, recurses := true, apart := false }
def ChipEvalsSaid : Prop := chipEvalsRow.holds Tryz.pinned (OpenSpec.ofChange chipEvalsSpec)

/-- ITS FALSE NEIGHBOUR: 'it returns false'. Refute it at one input. -/
def chipEvalsWrong : ChangeSpec := { name := "chipEvals", fn := fun _ => fun
  | [d1, d2, d3] => { results := [.lit (.bool false)], args := [d1, d2, d3] }
  | _ => none }
def ChipEvalsWrongFalsely : Prop := chipEvalsRow.holds Tryz.pinned (OpenSpec.ofChange chipEvalsWrong)

/-- 'filigreelaw32.ChipPlays': WHATEVER THE INPUT: true; the input reads as it did. -/
def chipPlaysSpec : ChangeSpec := { name := "chipPlays", fn := fun _ => fun
  | [d1, d2] => { results := [.lit (.bool true)], args := [d1, d2] }
  | _ => none }
def chipPlaysRow : OpenClaim := { program := "ytoloaecbfglaeaagreat", sum := "bc29eb5ed25996601871d703a2f02c5c8394f5117a697b80b650051229c5cde8", func := "filigree/filigreelaw32.ChipPlays", spec := "chipPlays", unfollowed := true, recurses := true, apart := false }
def ChipPlaysSaid : Prop := chipPlaysRow.holds Tryz.pinned (OpenSpec.ofChange chipPlaysSpec)

/-- ITS FALSE NEIGHBOUR: 'it returns false'. Refute it at one input. -/
def chipPlaysWrong : ChangeSpec := { name := "chipPlays", fn := fun _ => fun
  | [d1, d2] => { results := [.lit (.bool false)], args := [d1, d2] }
  | _ => none }
def ChipPlaysWrongFalsely : Prop := chipPlaysRow.holds Tryz.pinned (OpenSpec.ofChange chipPlaysWrong)

/-- 'filigreelaw32.ChipBytes': WHATEVER THE INPUT: true; the input reads as it did. -/
def chipBytesSpec : ChangeSpec := { name := "chipBytes", fn := fun _ => fun
  | [d1, d2] => { results := [.lit (.bool true)], args := [d1, d2] }
  | _ => none }
def chipBytesRow : OpenClaim := { program := "ytoloaecbfglaeaagreat", sum := "bc29eb5ed25996601871d703a2f02c5c8394f5117a697b80b650051229c5cde8", func := "filigree/filigreelaw32.ChipBytes", spec := "chipBytes", unfollowed := true, recurses := true, apart := false }
def ChipBytesSaid : Prop := chipBytesRow.holds Tryz.pinned (OpenSpec.ofChange chipBytesSpec)

/-- ITS FALSE NEIGHBOUR: 'it returns false'. Refute it at one input. -/
def chipBytesWrong : ChangeSpec := { name := "chipBytes", fn := fun _ => fun
  | [d1, d2] => { results := [.lit (.bool false)], args := [d1, d2] }
  | _ => none }
def ChipBytesWrongFalsely : Prop := chipBytesRow.holds Tryz.pinned (OpenSpec.ofChange chipBytesWrong)

/- THE SECOND FORM. 'bulk': how many values and letters a reading holds, each counted each time it is reached (what is shared counts as often as it is met; a slice's spare places count too). A statement '..UptoSaid' is the law's where the arguments, and the package variables that the reading takes, are together of bulk at most 1048576: NARROWER than '..Said'. Prove '..Said' where nothing that the law and all that it calls make is longer than what came in: it says more and counts as full. Else prove '..UptoSaid'. A law counts once. -/
mutual
def uptoBulk {H : Type} : DataW H → Nat
  | .lit (.string bytes) => bytes.length + 1
  | .lit _ => 1
  | .nil => 1
  | .ptr d => uptoBulk d + 1
  | .slice elems spare => uptoBulkAll elems + uptoBulkAll spare + 1
  | .agg parts => uptoBulkAll parts + 1
  | .iface _ d => uptoBulk d + 1
  | .map entries => uptoBulkEntries entries + 1
  | .held _ => 1
def uptoBulkAll {H : Type} : List (DataW H) → Nat
  | [] => 0
  | d :: r => uptoBulk d + uptoBulkAll r
def uptoBulkEntries {H : Type} : List (Lit × DataW H) → Nat
  | [] => 0
  | x :: r => uptoBulkEntry x + uptoBulkEntries r
def uptoBulkEntry {H : Type} : Lit × DataW H → Nat
  | (.string bytes, d) => bytes.length + uptoBulk d + 1
  | (_, d) => uptoBulk d + 1
 end
def uptoSmall : (H : Type) → List (DataW H) → Bool := fun _ ds => decide (uptoBulkAll ds ≤ 1048576)
def OpenSpec.upto (s : _root_.Go.ChangeSpec) : _root_.Go.OpenSpec := { _root_.Go.OpenSpec.ofChange s with cond := some uptoSmall }

/-- 'filigreelaw32.ChipReads', WHERE WHAT IT READS IS OF BULK AT MOST 1048576: true; the input reads as it did. -/
def chipReadsUptoRow : OpenClaim := { program := "ytoloaecbfglaeaagreat", sum := "bc29eb5ed25996601871d703a2f02c5c8394f5117a697b80b650051229c5cde8", func := "filigree/filigreelaw32.ChipReads", spec := "chipReads", unfollowed := true, recurses := true, apart := false, narrowed := true }
def ChipReadsUptoSaid : Prop := chipReadsUptoRow.holds Tryz.pinned (OpenSpec.upto chipReadsSpec)

/-- 'filigreelaw32.ChipEvals', WHERE WHAT IT READS IS OF BULK AT MOST 1048576: true; the input reads as it did. -/
def chipEvalsUptoRow : OpenClaim := { program := "ytoloaecbfglaeaagreat", sum := "bc29eb5ed25996601871d703a2f02c5c8394f5117a697b80b650051229c5cde8", func := "filigree/filigreelaw32.ChipEvals", spec := "chipEvals", unfollowed := true, recurses := true, apart := false, narrowed := true }
def ChipEvalsUptoSaid : Prop := chipEvalsUptoRow.holds Tryz.pinned (OpenSpec.upto chipEvalsSpec)

/-- 'filigreelaw32.ChipPlays', WHERE WHAT IT READS IS OF BULK AT MOST 1048576: true; the input reads as it did. -/
def chipPlaysUptoRow : OpenClaim := { program := "ytoloaecbfglaeaagreat", sum := "bc29eb5ed25996601871d703a2f02c5c8394f5117a697b80b650051229c5cde8", func := "filigree/filigreelaw32.ChipPlays", spec := "chipPlays", unfollowed := true, recurses := true, apart := false, narrowed := true }
def ChipPlaysUptoSaid : Prop := chipPlaysUptoRow.holds Tryz.pinned (OpenSpec.upto chipPlaysSpec)

/-- 'filigreelaw32.ChipBytes', WHERE WHAT IT READS IS OF BULK AT MOST 1048576: true; the input reads as it did. -/
def chipBytesUptoRow : OpenClaim := { program := "ytoloaecbfglaeaagreat", sum := "bc29eb5ed25996601871d703a2f02c5c8394f5117a697b80b650051229c5cde8", func := "filigree/filigreelaw32.ChipBytes", spec := "chipBytes", unfollowed := true, recurses := true, apart := false, narrowed := true }
def ChipBytesUptoSaid : Prop := chipBytesUptoRow.holds Tryz.pinned (OpenSpec.upto chipBytesSpec)

end Rows
end Go.Proofs.YtoloaecbfglaeaaGreat
