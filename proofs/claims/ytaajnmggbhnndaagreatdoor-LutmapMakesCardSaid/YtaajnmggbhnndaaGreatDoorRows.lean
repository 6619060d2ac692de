/-
  NARROWER THAN 'FOR EVERY INPUT', by the rows' own cells (each row's printed sentence says how): LutmapMakes: laid.
  DERIVED. THE GIVEN ROWS OF THIS SEAT. 1 by the template 'for every input the law returns true; each argument reads behind the call as it read before'; 0 by the template 'total and deterministic' (their statements: YtaajnmggbhnndaaGreatDoorTotals.lean).
  GIVEN WITH THE SEED: the statements are not yours to turn. If you find one false, say at which input.
  Laid BY PROGRAM, IN A SANDBOX (cutbox-rows.mjs): the forced cells as the released guide's own fill.sh prints them over the translation f6c83ffce5c183ec… (all of the seat's roots in one cut). By AI agents, Wed Nov 11 2026. No macro, syntax, notation, axiom, sorry.
-/
import Derived.Test.YtaajnmggbhnndaaGreatDoorChecked
import GoSem.Claim
import GoSem.ClaimJoined
import GoSem.ClaimMapViews
import Derived.JoinedTies
import Derived.KernelRfl
namespace Go.Proofs.YtaajnmggbhnndaaGreatDoor
/- THE CELL 'sum', in the pinned program and in every row, IS THE sha256 OF THE DUMP (.gsa) THAT YtaajnmggbhnndaaGreatDoorProg.lean LOADS. Nothing in Lean hashes anything: it is a label: what it is worth is what the hold of that sum in a sandbox is worth. -/
noncomputable def Tryz.pinned : Pinned := { name := "ytaajnmggbhnndaagreatdoor", sum := "f6c83ffce5c183ec65414057eecfe690449ee9a015da79da89f5ecdce3bc1486", checked := Tryz.checked }
namespace Rows
def none {H : Type} : Left H := { results := [], args := [] }

/- WHAT THE LISTED PACKAGE-LEVEL VARIABLES READ AS WHEN THE CALL BEGINS. Each datum BY PROGRAM (the guide's laid-datum.mjs) off the statement by which the dump's own 'gosem.cut.vars' lays the variable. In a bare row this is a premise. The card (YtaajnmggbhnndaaGreatDoorCards.lean) ties it to the program's text. -/
def laid_filigree_cuts_columns {H : Type} : DataW H := .agg [.lit (.int .u64 12297829382473034410), .lit (.int .u64 14757395258967641292), .lit (.int .u64 17361641481138401520), .lit (.int .u64 18374966859414961920), .lit (.int .u64 18446462603027742720), .lit (.int .u64 18446744069414584320)]

/-- 'filigreelaw25.LutmapMakes': WHATEVER THE INPUT: true; the input reads as it did. -/
def lutmapMakesSpec : ChangeSpec := { name := "lutmapMakes", fn := fun _ => fun
  | [d1, d2] => { results := [.lit (.bool true)], args := [d1, d2] }
  | _ => none }
def lutmapMakesRow : OpenClaim := { program := "ytaajnmggbhnndaagreatdoor", sum := "f6c83ffce5c183ec65414057eecfe690449ee9a015da79da89f5ecdce3bc1486", func := "filigree/filigreelaw25.LutmapMakes", spec := "lutmapMakes", unfollowed := true, recurses := true, named := ["filigree/cuts.columns"], apart := false, laid := [("filigree/cuts.columns", laid_filigree_cuts_columns)] }
def LutmapMakesSaid : Prop := lutmapMakesRow.holds Tryz.pinned (OpenSpec.ofChange lutmapMakesSpec)

/-- ITS FALSE NEIGHBOUR: 'it returns false'. Refute it at one input. -/
def lutmapMakesWrong : ChangeSpec := { name := "lutmapMakes", fn := fun _ => fun
  | [d1, d2] => { results := [.lit (.bool false)], args := [d1, d2] }
  | _ => none }
def LutmapMakesWrongFalsely : Prop := lutmapMakesRow.holds Tryz.pinned (OpenSpec.ofChange lutmapMakesWrong)

/- THE SECOND FORM. 'bulk': how many values and letters a reading holds, each counted each time it is reached (what is shared counts as often as it is met; a slice's spare places count too). A statement '..UptoSaid' is the law's where the arguments, and the package variables that the reading takes, are together of bulk at most 1048576: NARROWER than '..Said'. Prove '..Said' where nothing that the law and all that it calls make is longer than what came in: it says more and counts as full. Else prove '..UptoSaid'. A law counts once. -/
mutual
def uptoBulk {H : Type} : DataW H → Nat
  | .lit (.string bytes) => bytes.length + 1
  | .lit _ => 1
  | .nil => 1
  | .ptr d => uptoBulk d + 1
  | .slice elems spare => uptoBulkAll elems + uptoBulkAll spare + 1
  | .agg parts => uptoBulkAll parts + 1
  | .iface _ d => uptoBulk d + 1
  | .map entries => uptoBulkEntries entries + 1
  | .held _ => 1
def uptoBulkAll {H : Type} : List (DataW H) → Nat
  | [] => 0
  | d :: r => uptoBulk d + uptoBulkAll r
def uptoBulkEntries {H : Type} : List (Lit × DataW H) → Nat
  | [] => 0
  | x :: r => uptoBulkEntry x + uptoBulkEntries r
def uptoBulkEntry {H : Type} : Lit × DataW H → Nat
  | (.string bytes, d) => bytes.length + uptoBulk d + 1
  | (_, d) => uptoBulk d + 1
 end
def uptoSmall : (H : Type) → List (DataW H) → Bool := fun _ ds => decide (uptoBulkAll ds ≤ 1048576)
def OpenSpec.upto (s : _root_.Go.ChangeSpec) : _root_.Go.OpenSpec := { _root_.Go.OpenSpec.ofChange s with cond := some uptoSmall }

/-- 'filigreelaw25.LutmapMakes', WHERE WHAT IT READS IS OF BULK AT MOST 1048576: true; the input reads as it did. -/
def lutmapMakesUptoRow : OpenClaim := { program := "ytaajnmggbhnndaagreatdoor", sum := "f6c83ffce5c183ec65414057eecfe690449ee9a015da79da89f5ecdce3bc1486", func := "filigree/filigreelaw25.LutmapMakes", spec := "lutmapMakes", unfollowed := true, recurses := true, named := ["filigree/cuts.columns"], apart := false, laid := [("filigree/cuts.columns", laid_filigree_cuts_columns)], narrowed := true }
def LutmapMakesUptoSaid : Prop := lutmapMakesUptoRow.holds Tryz.pinned (OpenSpec.upto lutmapMakesSpec)

end Rows
end Go.Proofs.YtaajnmggbhnndaaGreatDoor
