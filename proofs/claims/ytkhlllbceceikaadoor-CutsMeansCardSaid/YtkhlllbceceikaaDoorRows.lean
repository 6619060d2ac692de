/-
  NARROWER THAN 'FOR EVERY INPUT', by the rows' own cells (each row's printed sentence says how): CutsTable: laid · CutsAll: laid · CutsRise: laid · CutsOwn: laid · CutsMore: laid · CutsMerge: laid · CutsDeep: laid · CutsMeans: laid.
  DERIVED. THE GIVEN ROWS OF THIS SEAT. 8 by the template 'for every input the law returns true; each argument reads behind the call as it read before'; 0 by the template 'total and deterministic' (their statements: YtkhlllbceceikaaDoorTotals.lean).
  GIVEN WITH THE SEED: the statements are not yours to turn. If you find one false, say at which input.
  Laid BY PROGRAM, IN A SANDBOX (cutbox-rows.mjs): the forced cells as the released guide's own fill.sh prints them over the translation 5526f36683367091… (all of the seat's roots in one cut). By AI agents, Wed Nov 11 2026. No macro, syntax, notation, axiom, sorry.
-/
import Derived.Test.YtkhlllbceceikaaDoorChecked
import GoSem.Claim
import GoSem.ClaimJoined
import GoSem.ClaimMapViews
import Derived.JoinedTies
import Derived.KernelRfl
namespace Go.Proofs.YtkhlllbceceikaaDoor
/- THE CELL 'sum', in the pinned program and in every row, IS THE sha256 OF THE DUMP (.gsa) THAT YtkhlllbceceikaaDoorProg.lean LOADS. Nothing in Lean hashes anything: it is a label: what it is worth is what the hold of that sum in a sandbox is worth. -/
noncomputable def Tryd.pinned : Pinned := { name := "ytkhlllbceceikaadoor", sum := "5526f36683367091da2bb1b23ac73759c8246f15eb074b1861df937b8bcdb163", checked := Tryd.checked }
namespace Rows
def none {H : Type} : Left H := { results := [], args := [] }

/- WHAT THE LISTED PACKAGE-LEVEL VARIABLES READ AS WHEN THE CALL BEGINS. Each datum BY PROGRAM (the guide's laid-datum.mjs) off the statement by which the dump's own 'gosem.cut.vars' lays the variable. In a bare row this is a premise. The card (YtkhlllbceceikaaDoorCards.lean) ties it to the program's text. -/
def laid_filigree_cuts_columns {H : Type} : DataW H := .agg [.lit (.int .u64 12297829382473034410), .lit (.int .u64 14757395258967641292), .lit (.int .u64 17361641481138401520), .lit (.int .u64 18374966859414961920), .lit (.int .u64 18446462603027742720), .lit (.int .u64 18446744069414584320)]

/-- 'filigreelaw24.CutsTable': WHATEVER THE INPUT: true; the input reads as it did. -/
def cutsTableSpec : ChangeSpec := { name := "cutsTable", fn := fun _ => fun
  | [d1, d2, d3, d4, d5, d6, d7] => { results := [.lit (.bool true)], args := [d1, d2, d3, d4, d5, d6, d7] }
  | _ => none }
def cutsTableRow : OpenClaim := { program := "ytkhlllbceceikaadoor", sum := "5526f36683367091da2bb1b23ac73759c8246f15eb074b1861df937b8bcdb163", func := "filigree/filigreelaw24.CutsTable", spec := "cutsTable", unfollowed := true, recurses := true, named := ["filigree/cuts.columns"], apart := false, laid := [("filigree/cuts.columns", laid_filigree_cuts_columns)] }
def CutsTableSaid : Prop := cutsTableRow.holds Tryd.pinned (OpenSpec.ofChange cutsTableSpec)

/-- ITS FALSE NEIGHBOUR: 'it returns false'. Refute it at one input. -/
def cutsTableWrong : ChangeSpec := { name := "cutsTable", fn := fun _ => fun
  | [d1, d2, d3, d4, d5, d6, d7] => { results := [.lit (.bool false)], args := [d1, d2, d3, d4, d5, d6, d7] }
  | _ => none }
def CutsTableWrongFalsely : Prop := cutsTableRow.holds Tryd.pinned (OpenSpec.ofChange cutsTableWrong)

/-- 'filigreelaw24.CutsAll': WHATEVER THE INPUT: true; the input reads as it did. -/
def cutsAllSpec : ChangeSpec := { name := "cutsAll", fn := fun _ => fun
  | [d1, d2] => { results := [.lit (.bool true)], args := [d1, d2] }
  | _ => none }
def cutsAllRow : OpenClaim := { program := "ytkhlllbceceikaadoor", sum := "5526f36683367091da2bb1b23ac73759c8246f15eb074b1861df937b8bcdb163", func := "filigree/filigreelaw24.CutsAll", spec := "cutsAll", unfollowed := true, recurses := true, named := ["filigree/cuts.columns"], apart := false, laid := [("filigree/cuts.columns", laid_filigree_cuts_columns)] }
def CutsAllSaid : Prop := cutsAllRow.holds Tryd.pinned (OpenSpec.ofChange cutsAllSpec)

/-- ITS FALSE NEIGHBOUR: 'it returns false'. Refute it at one input. -/
def cutsAllWrong : ChangeSpec := { name := "cutsAll", fn := fun _ => fun
  | [d1, d2] => { results := [.lit (.bool false)], args := [d1, d2] }
  | _ => none }
def CutsAllWrongFalsely : Prop := cutsAllRow.holds Tryd.pinned (OpenSpec.ofChange cutsAllWrong)

/-- 'filigreelaw24.CutsRise': WHATEVER THE INPUT: true; the input reads as it did. -/
def cutsRiseSpec : ChangeSpec := { name := "cutsRise", fn := fun _ => fun
  | [d1, d2] => { results := [.lit (.bool true)], args := [d1, d2] }
  | _ => none }
def cutsRiseRow : OpenClaim := { program := "ytkhlllbceceikaadoor", sum := "5526f36683367091da2bb1b23ac73759c8246f15eb074b1861df937b8bcdb163", func := "filigree/filigreelaw24.CutsRise", spec := "cutsRise", unfollowed := true, recurses := true, named := ["filigree/cuts.columns"], apart := false, laid := [("filigree/cuts.columns", laid_filigree_cuts_columns)] }
def CutsRiseSaid : Prop := cutsRiseRow.holds Tryd.pinned (OpenSpec.ofChange cutsRiseSpec)

/-- ITS FALSE NEIGHBOUR: 'it returns false'. Refute it at one input. -/
def cutsRiseWrong : ChangeSpec := { name := "cutsRise", fn := fun _ => fun
  | [d1, d2] => { results := [.lit (.bool false)], args := [d1, d2] }
  | _ => none }
def CutsRiseWrongFalsely : Prop := cutsRiseRow.holds Tryd.pinned (OpenSpec.ofChange cutsRiseWrong)

/-- 'filigreelaw24.CutsOwn': WHATEVER THE INPUT: true; the input reads as it did. -/
def cutsOwnSpec : ChangeSpec := { name := "cutsOwn", fn := fun _ => fun
  | [d] => { results := [.lit (.bool true)], args := [d] }
  | _ => none }
def cutsOwnRow : OpenClaim := { program := "ytkhlllbceceikaadoor", sum := "5526f36683367091da2bb1b23ac73759c8246f15eb074b1861df937b8bcdb163", func := "filigree/filigreelaw24.CutsOwn", spec := "cutsOwn", unfollowed := true, recurses := true, named := ["filigree/cuts.columns"], apart := false, laid := [("filigree/cuts.columns", laid_filigree_cuts_columns)] }
def CutsOwnSaid : Prop := cutsOwnRow.holds Tryd.pinned (OpenSpec.ofChange cutsOwnSpec)

/-- ITS FALSE NEIGHBOUR: 'it returns false'. Refute it at one input. -/
def cutsOwnWrong : ChangeSpec := { name := "cutsOwn", fn := fun _ => fun
  | [d] => { results := [.lit (.bool false)], args := [d] }
  | _ => none }
def CutsOwnWrongFalsely : Prop := cutsOwnRow.holds Tryd.pinned (OpenSpec.ofChange cutsOwnWrong)

/-- 'filigreelaw24.CutsMore': WHATEVER THE INPUT: true; the input reads as it did. -/
def cutsMoreSpec : ChangeSpec := { name := "cutsMore", fn := fun _ => fun
  | [d1, d2, d3] => { results := [.lit (.bool true)], args := [d1, d2, d3] }
  | _ => none }
def cutsMoreRow : OpenClaim := { program := "ytkhlllbceceikaadoor", sum := "5526f36683367091da2bb1b23ac73759c8246f15eb074b1861df937b8bcdb163", func := "filigree/filigreelaw24.CutsMore", spec := "cutsMore", unfollowed := true, recurses := true, named := ["filigree/cuts.columns"], apart := false, laid := [("filigree/cuts.columns", laid_filigree_cuts_columns)] }
def CutsMoreSaid : Prop := cutsMoreRow.holds Tryd.pinned (OpenSpec.ofChange cutsMoreSpec)

/-- ITS FALSE NEIGHBOUR: 'it returns false'. Refute it at one input. -/
def cutsMoreWrong : ChangeSpec := { name := "cutsMore", fn := fun _ => fun
  | [d1, d2, d3] => { results := [.lit (.bool false)], args := [d1, d2, d3] }
  | _ => none }
def CutsMoreWrongFalsely : Prop := cutsMoreRow.holds Tryd.pinned (OpenSpec.ofChange cutsMoreWrong)

/-- 'filigreelaw24.CutsMerge': WHATEVER THE INPUT: true; the input reads as it did. -/
def cutsMergeSpec : ChangeSpec := { name := "cutsMerge", fn := fun _ => fun
  | [d1, d2, d3] => { results := [.lit (.bool true)], args := [d1, d2, d3] }
  | _ => none }
def cutsMergeRow : OpenClaim := { program := "ytkhlllbceceikaadoor", sum := "5526f36683367091da2bb1b23ac73759c8246f15eb074b1861df937b8bcdb163", func := "filigree/filigreelaw24.CutsMerge", spec := "cutsMerge", unfollowed := true, recurses := true, named := ["filigree/cuts.columns"], apart := false, laid := [("filigree/cuts.columns", laid_filigree_cuts_columns)] }
def CutsMergeSaid : Prop := cutsMergeRow.holds Tryd.pinned (OpenSpec.ofChange cutsMergeSpec)

/-- ITS FALSE NEIGHBOUR: 'it returns false'. Refute it at one input. -/
def cutsMergeWrong : ChangeSpec := { name := "cutsMerge", fn := fun _ => fun
  | [d1, d2, d3] => { results := [.lit (.bool false)], args := [d1, d2, d3] }
  | _ => none }
def CutsMergeWrongFalsely : Prop := cutsMergeRow.holds Tryd.pinned (OpenSpec.ofChange cutsMergeWrong)

/-- 'filigreelaw24.CutsDeep': WHATEVER THE INPUT: true; the input reads as it did. -/
def cutsDeepSpec : ChangeSpec := { name := "cutsDeep", fn := fun _ => fun
  | [d1, d2] => { results := [.lit (.bool true)], args := [d1, d2] }
  | _ => none }
def cutsDeepRow : OpenClaim := { program := "ytkhlllbceceikaadoor", sum := "5526f36683367091da2bb1b23ac73759c8246f15eb074b1861df937b8bcdb163", func := "filigree/filigreelaw24.CutsDeep", spec := "cutsDeep", unfollowed := true, recurses := true, named := ["filigree/cuts.columns"], apart := false, laid := [("filigree/cuts.columns", laid_filigree_cuts_columns)] }
def CutsDeepSaid : Prop := cutsDeepRow.holds Tryd.pinned (OpenSpec.ofChange cutsDeepSpec)

/-- ITS FALSE NEIGHBOUR: 'it returns false'. Refute it at one input. -/
def cutsDeepWrong : ChangeSpec := { name := "cutsDeep", fn := fun _ => fun
  | [d1, d2] => { results := [.lit (.bool false)], args := [d1, d2] }
  | _ => none }
def CutsDeepWrongFalsely : Prop := cutsDeepRow.holds Tryd.pinned (OpenSpec.ofChange cutsDeepWrong)

/-- 'filigreelaw24.CutsMeans': WHATEVER THE INPUT: true; the input reads as it did. -/
def cutsMeansSpec : ChangeSpec := { name := "cutsMeans", fn := fun _ => fun
  | [d1, d2, d3, d4] => { results := [.lit (.bool true)], args := [d1, d2, d3, d4] }
  | _ => none }
def cutsMeansRow : OpenClaim := { program := "ytkhlllbceceikaadoor", sum := "5526f36683367091da2bb1b23ac73759c8246f15eb074b1861df937b8bcdb163", func := "filigree/filigreelaw24.CutsMeans", spec := "cutsMeans", unfollowed := true, recurses := true, named := ["filigree/cuts.columns"], apart := false, laid := [("filigree/cuts.columns", laid_filigree_cuts_columns)] }
def CutsMeansSaid : Prop := cutsMeansRow.holds Tryd.pinned (OpenSpec.ofChange cutsMeansSpec)

/-- ITS FALSE NEIGHBOUR: 'it returns false'. Refute it at one input. -/
def cutsMeansWrong : ChangeSpec := { name := "cutsMeans", fn := fun _ => fun
  | [d1, d2, d3, d4] => { results := [.lit (.bool false)], args := [d1, d2, d3, d4] }
  | _ => none }
def CutsMeansWrongFalsely : Prop := cutsMeansRow.holds Tryd.pinned (OpenSpec.ofChange cutsMeansWrong)

/- THE SECOND FORM. 'bulk': how many values and letters a reading holds, each counted each time it is reached (what is shared counts as often as it is met; a slice's spare places count too). A statement '..UptoSaid' is the law's where the arguments, and the package variables that the reading takes, are together of bulk at most 1048576: NARROWER than '..Said'. Prove '..Said' where nothing that the law and all that it calls make is longer than what came in: it says more and counts as full. Else prove '..UptoSaid'. A law counts once. -/
mutual
def uptoBulk {H : Type} : DataW H → Nat
  | .lit (.string bytes) => bytes.length + 1
  | .lit _ => 1
  | .nil => 1
  | .ptr d => uptoBulk d + 1
  | .slice elems spare => uptoBulkAll elems + uptoBulkAll spare + 1
  | .agg parts => uptoBulkAll parts + 1
  | .iface _ d => uptoBulk d + 1
  | .map entries => uptoBulkEntries entries + 1
  | .held _ => 1
def uptoBulkAll {H : Type} : List (DataW H) → Nat
  | [] => 0
  | d :: r => uptoBulk d + uptoBulkAll r
def uptoBulkEntries {H : Type} : List (Lit × DataW H) → Nat
  | [] => 0
  | x :: r => uptoBulkEntry x + uptoBulkEntries r
def uptoBulkEntry {H : Type} : Lit × DataW H → Nat
  | (.string bytes, d) => bytes.length + uptoBulk d + 1
  | (_, d) => uptoBulk d + 1
 end
def uptoSmall : (H : Type) → List (DataW H) → Bool := fun _ ds => decide (uptoBulkAll ds ≤ 1048576)
def OpenSpec.upto (s : _root_.Go.ChangeSpec) : _root_.Go.OpenSpec := { _root_.Go.OpenSpec.ofChange s with cond := some uptoSmall }

/-- 'filigreelaw24.CutsTable', WHERE WHAT IT READS IS OF BULK AT MOST 1048576: true; the input reads as it did. -/
def cutsTableUptoRow : OpenClaim := { program := "ytkhlllbceceikaadoor", sum := "5526f36683367091da2bb1b23ac73759c8246f15eb074b1861df937b8bcdb163", func := "filigree/filigreelaw24.CutsTable", spec := "cutsTable", unfollowed := true, recurses := true, named := ["filigree/cuts.columns"], apart := false, laid := [("filigree/cuts.columns", laid_filigree_cuts_columns)], narrowed := true }
def CutsTableUptoSaid : Prop := cutsTableUptoRow.holds Tryd.pinned (OpenSpec.upto cutsTableSpec)

/-- 'filigreelaw24.CutsAll', WHERE WHAT IT READS IS OF BULK AT MOST 1048576: true; the input reads as it did. -/
def cutsAllUptoRow : OpenClaim := { program := "ytkhlllbceceikaadoor", sum := "5526f36683367091da2bb1b23ac73759c8246f15eb074b1861df937b8bcdb163", func := "filigree/filigreelaw24.CutsAll", spec := "cutsAll", unfollowed := true, recurses := true, named := ["filigree/cuts.columns"], apart := false, laid := [("filigree/cuts.columns", laid_filigree_cuts_columns)], narrowed := true }
def CutsAllUptoSaid : Prop := cutsAllUptoRow.holds Tryd.pinned (OpenSpec.upto cutsAllSpec)

/-- 'filigreelaw24.CutsRise', WHERE WHAT IT READS IS OF BULK AT MOST 1048576: true; the input reads as it did. -/
def cutsRiseUptoRow : OpenClaim := { program := "ytkhlllbceceikaadoor", sum := "5526f36683367091da2bb1b23ac73759c8246f15eb074b1861df937b8bcdb163", func := "filigree/filigreelaw24.CutsRise", spec := "cutsRise", unfollowed := true, recurses := true, named := ["filigree/cuts.columns"], apart := false, laid := [("filigree/cuts.columns", laid_filigree_cuts_columns)], narrowed := true }
def CutsRiseUptoSaid : Prop := cutsRiseUptoRow.holds Tryd.pinned (OpenSpec.upto cutsRiseSpec)

/-- 'filigreelaw24.CutsOwn', WHERE WHAT IT READS IS OF BULK AT MOST 1048576: true; the input reads as it did. -/
def cutsOwnUptoRow : OpenClaim := { program := "ytkhlllbceceikaadoor", sum := "5526f36683367091da2bb1b23ac73759c8246f15eb074b1861df937b8bcdb163", func := "filigree/filigreelaw24.CutsOwn", spec := "cutsOwn", unfollowed := true, recurses := true, named := ["filigree/cuts.columns"], apart := false, laid := [("filigree/cuts.columns", laid_filigree_cuts_columns)], narrowed := true }
def CutsOwnUptoSaid : Prop := cutsOwnUptoRow.holds Tryd.pinned (OpenSpec.upto cutsOwnSpec)

/-- 'filigreelaw24.CutsMore', WHERE WHAT IT READS IS OF BULK AT MOST 1048576: true; the input reads as it did. -/
def cutsMoreUptoRow : OpenClaim := { program := "ytkhlllbceceikaadoor", sum := "5526f36683367091da2bb1b23ac73759c8246f15eb074b1861df937b8bcdb163", func := "filigree/filigreelaw24.CutsMore", spec := "cutsMore", unfollowed := true, recurses := true, named := ["filigree/cuts.columns"], apart := false, laid := [("filigree/cuts.columns", laid_filigree_cuts_columns)], narrowed := true }
def CutsMoreUptoSaid : Prop := cutsMoreUptoRow.holds Tryd.pinned (OpenSpec.upto cutsMoreSpec)

/-- 'filigreelaw24.CutsMerge', WHERE WHAT IT READS IS OF BULK AT MOST 1048576: true; the input reads as it did. -/
def cutsMergeUptoRow : OpenClaim := { program := "ytkhlllbceceikaadoor", sum := "5526f36683367091da2bb1b23ac73759c8246f15eb074b1861df937b8bcdb163", func := "filigree/filigreelaw24.CutsMerge", spec := "cutsMerge", unfollowed := true, recurses := true, named := ["filigree/cuts.columns"], apart := false, laid := [("filigree/cuts.columns", laid_filigree_cuts_columns)], narrowed := true }
def CutsMergeUptoSaid : Prop := cutsMergeUptoRow.holds Tryd.pinned (OpenSpec.upto cutsMergeSpec)

/-- 'filigreelaw24.CutsDeep', WHERE WHAT IT READS IS OF BULK AT MOST 1048576: true; the input reads as it did. -/
def cutsDeepUptoRow : OpenClaim := { program := "ytkhlllbceceikaadoor", sum := "5526f36683367091da2bb1b23ac73759c8246f15eb074b1861df937b8bcdb163", func := "filigree/filigreelaw24.CutsDeep", spec := "cutsDeep", unfollowed := true, recurses := true, named := ["filigree/cuts.columns"], apart := false, laid := [("filigree/cuts.columns", laid_filigree_cuts_columns)], narrowed := true }
def CutsDeepUptoSaid : Prop := cutsDeepUptoRow.holds Tryd.pinned (OpenSpec.upto cutsDeepSpec)

/-- 'filigreelaw24.CutsMeans', WHERE WHAT IT READS IS OF BULK AT MOST 1048576: true; the input reads as it did. -/
def cutsMeansUptoRow : OpenClaim := { program := "ytkhlllbceceikaadoor", sum := "5526f36683367091da2bb1b23ac73759c8246f15eb074b1861df937b8bcdb163", func := "filigree/filigreelaw24.CutsMeans", spec := "cutsMeans", unfollowed := true, recurses := true, named := ["filigree/cuts.columns"], apart := false, laid := [("filigree/cuts.columns", laid_filigree_cuts_columns)], narrowed := true }
def CutsMeansUptoSaid : Prop := cutsMeansUptoRow.holds Tryd.pinned (OpenSpec.upto cutsMeansSpec)

end Rows
end Go.Proofs.YtkhlllbceceikaaDoor
