/-
  NARROWER THAN 'FOR EVERY INPUT', by the rows' own cells (each row's printed sentence says how): LutmapShapes: laid · LutmapUsed: laid · LutmapTurns: laid · LutmapDeep: laid · LutmapEvals: laid.
  DERIVED. THE GIVEN ROWS OF THIS SEAT. 5 by the template 'for every input the law returns true; each argument reads behind the call as it read before'; 0 by the template 'total and deterministic' (their statements: YtebgihekgijpfaaDoorTotals.lean).
  GIVEN WITH THE SEED: the statements are not yours to turn. If you find one false, say at which input.
  Laid BY PROGRAM, IN A SANDBOX (cutbox-rows.mjs): the forced cells as the released guide's own fill.sh prints them over the translation 29f43df6575bccd1… (all of the seat's roots in one cut). By AI agents, Wed Nov 11 2026. No macro, syntax, notation, axiom, sorry.
-/
import Derived.Test.YtebgihekgijpfaaDoorChecked
import GoSem.Claim
import GoSem.ClaimJoined
import GoSem.ClaimMapViews
import Derived.JoinedTies
import Derived.KernelRfl
namespace Go.Proofs.YtebgihekgijpfaaDoor
/- THE CELL 'sum', in the pinned program and in every row, IS THE sha256 OF THE DUMP (.gsa) THAT YtebgihekgijpfaaDoorProg.lean LOADS. Nothing in Lean hashes anything: it is a label: what it is worth is what the hold of that sum in a sandbox is worth. -/
noncomputable def Tryd.pinned : Pinned := { name := "ytebgihekgijpfaadoor", sum := "29f43df6575bccd14060c1c3f06ef151a6dd7683db8274a8dd33b01202cb1141", checked := Tryd.checked }
namespace Rows
def none {H : Type} : Left H := { results := [], args := [] }

/- WHAT THE LISTED PACKAGE-LEVEL VARIABLES READ AS WHEN THE CALL BEGINS. Each datum BY PROGRAM (the guide's laid-datum.mjs) off the statement by which the dump's own 'gosem.cut.vars' lays the variable. In a bare row this is a premise. The card (YtebgihekgijpfaaDoorCards.lean) ties it to the program's text. -/
def laid_filigree_cuts_columns {H : Type} : DataW H := .agg [.lit (.int .u64 12297829382473034410), .lit (.int .u64 14757395258967641292), .lit (.int .u64 17361641481138401520), .lit (.int .u64 18374966859414961920), .lit (.int .u64 18446462603027742720), .lit (.int .u64 18446744069414584320)]

/-- 'filigreelaw25.LutmapShapes': WHATEVER THE INPUT: true; the input reads as it did. -/
def lutmapShapesSpec : ChangeSpec := { name := "lutmapShapes", fn := fun _ => fun
  | [d1, d2] => { results := [.lit (.bool true)], args := [d1, d2] }
  | _ => none }
def lutmapShapesRow : OpenClaim := { program := "ytebgihekgijpfaadoor", sum := "29f43df6575bccd14060c1c3f06ef151a6dd7683db8274a8dd33b01202cb1141", func := "filigree/filigreelaw25.LutmapShapes", spec := "lutmapShapes", unfollowed := true, recurses := true, named := ["filigree/cuts.columns"], apart := false, laid := [("filigree/cuts.columns", laid_filigree_cuts_columns)] }
def LutmapShapesSaid : Prop := lutmapShapesRow.holds Tryd.pinned (OpenSpec.ofChange lutmapShapesSpec)

/-- ITS FALSE NEIGHBOUR: 'it returns false'. Refute it at one input. -/
def lutmapShapesWrong : ChangeSpec := { name := "lutmapShapes", fn := fun _ => fun
  | [d1, d2] => { results := [.lit (.bool false)], args := [d1, d2] }
  | _ => none }
def LutmapShapesWrongFalsely : Prop := lutmapShapesRow.holds Tryd.pinned (OpenSpec.ofChange lutmapShapesWrong)

/-- 'filigreelaw25.LutmapUsed': WHATEVER THE INPUT: true; the input reads as it did. -/
def lutmapUsedSpec : ChangeSpec := { name := "lutmapUsed", fn := fun _ => fun
  | [d1, d2] => { results := [.lit (.bool true)], args := [d1, d2] }
  | _ => none }
def lutmapUsedRow : OpenClaim := { program := "ytebgihekgijpfaadoor", sum := "29f43df6575bccd14060c1c3f06ef151a6dd7683db8274a8dd33b01202cb1141", func := "filigree/filigreelaw25.LutmapUsed", spec := "lutmapUsed", unfollowed := true, recurses := true, named := ["filigree/cuts.columns"], apart := false, laid := [("filigree/cuts.columns", laid_filigree_cuts_columns)] }
def LutmapUsedSaid : Prop := lutmapUsedRow.holds Tryd.pinned (OpenSpec.ofChange lutmapUsedSpec)

/-- ITS FALSE NEIGHBOUR: 'it returns false'. Refute it at one input. -/
def lutmapUsedWrong : ChangeSpec := { name := "lutmapUsed", fn := fun _ => fun
  | [d1, d2] => { results := [.lit (.bool false)], args := [d1, d2] }
  | _ => none }
def LutmapUsedWrongFalsely : Prop := lutmapUsedRow.holds Tryd.pinned (OpenSpec.ofChange lutmapUsedWrong)

/-- 'filigreelaw25.LutmapTurns': WHATEVER THE INPUT: true; the input reads as it did. -/
def lutmapTurnsSpec : ChangeSpec := { name := "lutmapTurns", fn := fun _ => fun
  | [d1, d2, d3, d4] => { results := [.lit (.bool true)], args := [d1, d2, d3, d4] }
  | _ => none }
def lutmapTurnsRow : OpenClaim := { program := "ytebgihekgijpfaadoor", sum := "29f43df6575bccd14060c1c3f06ef151a6dd7683db8274a8dd33b01202cb1141", func := "filigree/filigreelaw25.LutmapTurns", spec := "lutmapTurns", unfollowed := true, recurses := true, named := ["filigree/cuts.columns"], apart := false, laid := [("filigree/cuts.columns", laid_filigree_cuts_columns)] }
def LutmapTurnsSaid : Prop := lutmapTurnsRow.holds Tryd.pinned (OpenSpec.ofChange lutmapTurnsSpec)

/-- ITS FALSE NEIGHBOUR: 'it returns false'. Refute it at one input. -/
def lutmapTurnsWrong : ChangeSpec := { name := "lutmapTurns", fn := fun _ => fun
  | [d1, d2, d3, d4] => { results := [.lit (.bool false)], args := [d1, d2, d3, d4] }
  | _ => none }
def LutmapTurnsWrongFalsely : Prop := lutmapTurnsRow.holds Tryd.pinned (OpenSpec.ofChange lutmapTurnsWrong)

/-- 'filigreelaw25.LutmapDeep': WHATEVER THE INPUT: true; the input reads as it did. -/
def lutmapDeepSpec : ChangeSpec := { name := "lutmapDeep", fn := fun _ => fun
  | [d1, d2] => { results := [.lit (.bool true)], args := [d1, d2] }
  | _ => none }
def lutmapDeepRow : OpenClaim := { program := "ytebgihekgijpfaadoor", sum := "29f43df6575bccd14060c1c3f06ef151a6dd7683db8274a8dd33b01202cb1141", func := "filigree/filigreelaw25.LutmapDeep", spec := "lutmapDeep", unfollowed := true, recurses := true, named := ["filigree/cuts.columns"], apart := false, laid := [("filigree/cuts.columns", laid_filigree_cuts_columns)] }
def LutmapDeepSaid : Prop := lutmapDeepRow.holds Tryd.pinned (OpenSpec.ofChange lutmapDeepSpec)

/-- ITS FALSE NEIGHBOUR: 'it returns false'. Refute it at one input. -/
def lutmapDeepWrong : ChangeSpec := { name := "lutmapDeep", fn := fun _ => fun
  | [d1, d2] => { results := [.lit (.bool false)], args := [d1, d2] }
  | _ => none }
def LutmapDeepWrongFalsely : Prop := lutmapDeepRow.holds Tryd.pinned (OpenSpec.ofChange lutmapDeepWrong)

/-- 'filigreelaw25.LutmapEvals': WHATEVER THE INPUT: true; the input reads as it did. -/
def lutmapEvalsSpec : ChangeSpec := { name := "lutmapEvals", fn := fun _ => fun
  | [d1, d2, d3, d4] => { results := [.lit (.bool true)], args := [d1, d2, d3, d4] }
  | _ => none }
def lutmapEvalsRow : OpenClaim := { program := "ytebgihekgijpfaadoor", sum := "29f43df6575bccd14060c1c3f06ef151a6dd7683db8274a8dd33b01202cb1141", func := "filigree/filigreelaw25.LutmapEvals", spec := "lutmapEvals", unfollowed := true, recurses := true, named := ["filigree/cuts.columns"], apart := false, laid := [("filigree/cuts.columns", laid_filigree_cuts_columns)] }
def LutmapEvalsSaid : Prop := lutmapEvalsRow.holds Tryd.pinned (OpenSpec.ofChange lutmapEvalsSpec)

/-- ITS FALSE NEIGHBOUR: 'it returns false'. Refute it at one input. -/
def lutmapEvalsWrong : ChangeSpec := { name := "lutmapEvals", fn := fun _ => fun
  | [d1, d2, d3, d4] => { results := [.lit (.bool false)], args := [d1, d2, d3, d4] }
  | _ => none }
def LutmapEvalsWrongFalsely : Prop := lutmapEvalsRow.holds Tryd.pinned (OpenSpec.ofChange lutmapEvalsWrong)

/- THE SECOND FORM. 'bulk': how many values and letters a reading holds, each counted each time it is reached (what is shared counts as often as it is met; a slice's spare places count too). A statement '..UptoSaid' is the law's where the arguments, and the package variables that the reading takes, are together of bulk at most 1048576: NARROWER than '..Said'. Prove '..Said' where nothing that the law and all that it calls make is longer than what came in: it says more and counts as full. Else prove '..UptoSaid'. A law counts once. -/
mutual
def uptoBulk {H : Type} : DataW H → Nat
  | .lit (.string bytes) => bytes.length + 1
  | .lit _ => 1
  | .nil => 1
  | .ptr d => uptoBulk d + 1
  | .slice elems spare => uptoBulkAll elems + uptoBulkAll spare + 1
  | .agg parts => uptoBulkAll parts + 1
  | .iface _ d => uptoBulk d + 1
  | .map entries => uptoBulkEntries entries + 1
  | .held _ => 1
def uptoBulkAll {H : Type} : List (DataW H) → Nat
  | [] => 0
  | d :: r => uptoBulk d + uptoBulkAll r
def uptoBulkEntries {H : Type} : List (Lit × DataW H) → Nat
  | [] => 0
  | x :: r => uptoBulkEntry x + uptoBulkEntries r
def uptoBulkEntry {H : Type} : Lit × DataW H → Nat
  | (.string bytes, d) => bytes.length + uptoBulk d + 1
  | (_, d) => uptoBulk d + 1
 end
def uptoSmall : (H : Type) → List (DataW H) → Bool := fun _ ds => decide (uptoBulkAll ds ≤ 1048576)
def OpenSpec.upto (s : _root_.Go.ChangeSpec) : _root_.Go.OpenSpec := { _root_.Go.OpenSpec.ofChange s with cond := some uptoSmall }

/-- 'filigreelaw25.LutmapShapes', WHERE WHAT IT READS IS OF BULK AT MOST 1048576: true; the input reads as it did. -/
def lutmapShapesUptoRow : OpenClaim := { program := "ytebgihekgijpfaadoor", sum := "29f43df6575bccd14060c1c3f06ef151a6dd7683db8274a8dd33b01202cb1141", func := "filigree/filigreelaw25.LutmapShapes", spec := "lutmapShapes", unfollowed := true, recurses := true, named := ["filigree/cuts.columns"], apart := false, laid := [("filigree/cuts.columns", laid_filigree_cuts_columns)], narrowed := true }
def LutmapShapesUptoSaid : Prop := lutmapShapesUptoRow.holds Tryd.pinned (OpenSpec.upto lutmapShapesSpec)

/-- 'filigreelaw25.LutmapUsed', WHERE WHAT IT READS IS OF BULK AT MOST 1048576: true; the input reads as it did. -/
def lutmapUsedUptoRow : OpenClaim := { program := "ytebgihekgijpfaadoor", sum := "29f43df6575bccd14060c1c3f06ef151a6dd7683db8274a8dd33b01202cb1141", func := "filigree/filigreelaw25.LutmapUsed", spec := "lutmapUsed", unfollowed := true, recurses := true, named := ["filigree/cuts.columns"], apart := false, laid := [("filigree/cuts.columns", laid_filigree_cuts_columns)], narrowed := true }
def LutmapUsedUptoSaid : Prop := lutmapUsedUptoRow.holds Tryd.pinned (OpenSpec.upto lutmapUsedSpec)

/-- 'filigreelaw25.LutmapTurns', WHERE WHAT IT READS IS OF BULK AT MOST 1048576: true; the input reads as it did. -/
def lutmapTurnsUptoRow : OpenClaim := { program := "ytebgihekgijpfaadoor", sum := "29f43df6575bccd14060c1c3f06ef151a6dd7683db8274a8dd33b01202cb1141", func := "filigree/filigreelaw25.LutmapTurns", spec := "lutmapTurns", unfollowed := true, recurses := true, named := ["filigree/cuts.columns"], apart := false, laid := [("filigree/cuts.columns", laid_filigree_cuts_columns)], narrowed := true }
def LutmapTurnsUptoSaid : Prop := lutmapTurnsUptoRow.holds Tryd.pinned (OpenSpec.upto lutmapTurnsSpec)

/-- 'filigreelaw25.LutmapDeep', WHERE WHAT IT READS IS OF BULK AT MOST 1048576: true; the input reads as it did. -/
def lutmapDeepUptoRow : OpenClaim := { program := "ytebgihekgijpfaadoor", sum := "29f43df6575bccd14060c1c3f06ef151a6dd7683db8274a8dd33b01202cb1141", func := "filigree/filigreelaw25.LutmapDeep", spec := "lutmapDeep", unfollowed := true, recurses := true, named := ["filigree/cuts.columns"], apart := false, laid := [("filigree/cuts.columns", laid_filigree_cuts_columns)], narrowed := true }
def LutmapDeepUptoSaid : Prop := lutmapDeepUptoRow.holds Tryd.pinned (OpenSpec.upto lutmapDeepSpec)

/-- 'filigreelaw25.LutmapEvals', WHERE WHAT IT READS IS OF BULK AT MOST 1048576: true; the input reads as it did. -/
def lutmapEvalsUptoRow : OpenClaim := { program := "ytebgihekgijpfaadoor", sum := "29f43df6575bccd14060c1c3f06ef151a6dd7683db8274a8dd33b01202cb1141", func := "filigree/filigreelaw25.LutmapEvals", spec := "lutmapEvals", unfollowed := true, recurses := true, named := ["filigree/cuts.columns"], apart := false, laid := [("filigree/cuts.columns", laid_filigree_cuts_columns)], narrowed := true }
def LutmapEvalsUptoSaid : Prop := lutmapEvalsUptoRow.holds Tryd.pinned (OpenSpec.upto lutmapEvalsSpec)

end Rows
end Go.Proofs.YtebgihekgijpfaaDoor
