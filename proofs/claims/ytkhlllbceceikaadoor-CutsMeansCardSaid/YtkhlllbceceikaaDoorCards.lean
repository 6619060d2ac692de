/-
  DERIVED. GIVEN WITH THE SEED: THE CARDS: each row of YtkhlllbceceikaaDoorRows.lean that lists a variable, with what it lists TIED to the program's text (the seventh form; the later family's looks); each row that meets fmt, with fmt's text TOLD by the authors' own Lean function (tested against real Go, not proved from fmt's source: count such statements apart). THE CARD IS WHAT COUNTS. Prove the row's statement (the work); the ties are given (YtkhlllbceceikaaDoorTie.lean); close each card by the builder's one call (the guide's Derived/Test/ToyasCard.lean, 'card_holds'). Laid BY PROGRAM, IN A SANDBOX (cutbox-door.mjs). By AI agents, Wed Nov 11 2026. No macro, syntax, notation, axiom, sorry.
-/
import Derived.Test.YtkhlllbceceikaaDoorRows
import GoSem.ClaimSeven
namespace Go.Proofs.YtkhlllbceceikaaDoor
namespace Rows

/-- THE TIED CARD OF 'filigreelaw24.CutsTable'. -/
def cutsTableCard : Claim7 := { stood := { row := cutsTableRow, standIns := [], harness := (true, "c99090f51f38de298e25ef79dfccc488b37ceb71fc6a754663ee14bc23c3604d"), looks := false }, kinds := [], alts := [], laidByText := true, laidKinds := [.data], laidTests := true, laidLooks := .later }
def CutsTableCardSaid : Prop := Claim7.holds Tryd.pinned (.plain (OpenSpec.ofChange cutsTableSpec)) cutsTableCard

/-- THE TIED CARD OF 'filigreelaw24.CutsAll'. -/
def cutsAllCard : Claim7 := { stood := { row := cutsAllRow, standIns := [], harness := (true, "c99090f51f38de298e25ef79dfccc488b37ceb71fc6a754663ee14bc23c3604d"), looks := false }, kinds := [], alts := [], laidByText := true, laidKinds := [.data], laidTests := true, laidLooks := .later }
def CutsAllCardSaid : Prop := Claim7.holds Tryd.pinned (.plain (OpenSpec.ofChange cutsAllSpec)) cutsAllCard

/-- THE TIED CARD OF 'filigreelaw24.CutsRise'. -/
def cutsRiseCard : Claim7 := { stood := { row := cutsRiseRow, standIns := [], harness := (true, "c99090f51f38de298e25ef79dfccc488b37ceb71fc6a754663ee14bc23c3604d"), looks := false }, kinds := [], alts := [], laidByText := true, laidKinds := [.data], laidTests := true, laidLooks := .later }
def CutsRiseCardSaid : Prop := Claim7.holds Tryd.pinned (.plain (OpenSpec.ofChange cutsRiseSpec)) cutsRiseCard

/-- THE TIED CARD OF 'filigreelaw24.CutsOwn'. -/
def cutsOwnCard : Claim7 := { stood := { row := cutsOwnRow, standIns := [], harness := (true, "c99090f51f38de298e25ef79dfccc488b37ceb71fc6a754663ee14bc23c3604d"), looks := false }, kinds := [], alts := [], laidByText := true, laidKinds := [.data], laidTests := true, laidLooks := .later }
def CutsOwnCardSaid : Prop := Claim7.holds Tryd.pinned (.plain (OpenSpec.ofChange cutsOwnSpec)) cutsOwnCard

/-- THE TIED CARD OF 'filigreelaw24.CutsMore'. -/
def cutsMoreCard : Claim7 := { stood := { row := cutsMoreRow, standIns := [], harness := (true, "c99090f51f38de298e25ef79dfccc488b37ceb71fc6a754663ee14bc23c3604d"), looks := false }, kinds := [], alts := [], laidByText := true, laidKinds := [.data], laidTests := true, laidLooks := .later }
def CutsMoreCardSaid : Prop := Claim7.holds Tryd.pinned (.plain (OpenSpec.ofChange cutsMoreSpec)) cutsMoreCard

/-- THE TIED CARD OF 'filigreelaw24.CutsMerge'. -/
def cutsMergeCard : Claim7 := { stood := { row := cutsMergeRow, standIns := [], harness := (true, "c99090f51f38de298e25ef79dfccc488b37ceb71fc6a754663ee14bc23c3604d"), looks := false }, kinds := [], alts := [], laidByText := true, laidKinds := [.data], laidTests := true, laidLooks := .later }
def CutsMergeCardSaid : Prop := Claim7.holds Tryd.pinned (.plain (OpenSpec.ofChange cutsMergeSpec)) cutsMergeCard

/-- THE TIED CARD OF 'filigreelaw24.CutsDeep'. -/
def cutsDeepCard : Claim7 := { stood := { row := cutsDeepRow, standIns := [], harness := (true, "c99090f51f38de298e25ef79dfccc488b37ceb71fc6a754663ee14bc23c3604d"), looks := false }, kinds := [], alts := [], laidByText := true, laidKinds := [.data], laidTests := true, laidLooks := .later }
def CutsDeepCardSaid : Prop := Claim7.holds Tryd.pinned (.plain (OpenSpec.ofChange cutsDeepSpec)) cutsDeepCard

/-- THE TIED CARD OF 'filigreelaw24.CutsMeans'. -/
def cutsMeansCard : Claim7 := { stood := { row := cutsMeansRow, standIns := [], harness := (true, "c99090f51f38de298e25ef79dfccc488b37ceb71fc6a754663ee14bc23c3604d"), looks := false }, kinds := [], alts := [], laidByText := true, laidKinds := [.data], laidTests := true, laidLooks := .later }
def CutsMeansCardSaid : Prop := Claim7.holds Tryd.pinned (.plain (OpenSpec.ofChange cutsMeansSpec)) cutsMeansCard

/-- THE SECOND FORM's CARD OF 'filigreelaw24.CutsTable'. -/
def cutsTableUptoCard : Claim7 := { stood := { row := cutsTableUptoRow, standIns := [], harness := (true, "c99090f51f38de298e25ef79dfccc488b37ceb71fc6a754663ee14bc23c3604d"), looks := false }, kinds := [], alts := [], laidByText := true, laidKinds := [.data], laidTests := true, laidLooks := .later }
def CutsTableUptoCardSaid : Prop := Claim7.holds Tryd.pinned (.plain (OpenSpec.upto cutsTableSpec)) cutsTableUptoCard

/-- THE SECOND FORM's CARD OF 'filigreelaw24.CutsAll'. -/
def cutsAllUptoCard : Claim7 := { stood := { row := cutsAllUptoRow, standIns := [], harness := (true, "c99090f51f38de298e25ef79dfccc488b37ceb71fc6a754663ee14bc23c3604d"), looks := false }, kinds := [], alts := [], laidByText := true, laidKinds := [.data], laidTests := true, laidLooks := .later }
def CutsAllUptoCardSaid : Prop := Claim7.holds Tryd.pinned (.plain (OpenSpec.upto cutsAllSpec)) cutsAllUptoCard

/-- THE SECOND FORM's CARD OF 'filigreelaw24.CutsRise'. -/
def cutsRiseUptoCard : Claim7 := { stood := { row := cutsRiseUptoRow, standIns := [], harness := (true, "c99090f51f38de298e25ef79dfccc488b37ceb71fc6a754663ee14bc23c3604d"), looks := false }, kinds := [], alts := [], laidByText := true, laidKinds := [.data], laidTests := true, laidLooks := .later }
def CutsRiseUptoCardSaid : Prop := Claim7.holds Tryd.pinned (.plain (OpenSpec.upto cutsRiseSpec)) cutsRiseUptoCard

/-- THE SECOND FORM's CARD OF 'filigreelaw24.CutsOwn'. -/
def cutsOwnUptoCard : Claim7 := { stood := { row := cutsOwnUptoRow, standIns := [], harness := (true, "c99090f51f38de298e25ef79dfccc488b37ceb71fc6a754663ee14bc23c3604d"), looks := false }, kinds := [], alts := [], laidByText := true, laidKinds := [.data], laidTests := true, laidLooks := .later }
def CutsOwnUptoCardSaid : Prop := Claim7.holds Tryd.pinned (.plain (OpenSpec.upto cutsOwnSpec)) cutsOwnUptoCard

/-- THE SECOND FORM's CARD OF 'filigreelaw24.CutsMore'. -/
def cutsMoreUptoCard : Claim7 := { stood := { row := cutsMoreUptoRow, standIns := [], harness := (true, "c99090f51f38de298e25ef79dfccc488b37ceb71fc6a754663ee14bc23c3604d"), looks := false }, kinds := [], alts := [], laidByText := true, laidKinds := [.data], laidTests := true, laidLooks := .later }
def CutsMoreUptoCardSaid : Prop := Claim7.holds Tryd.pinned (.plain (OpenSpec.upto cutsMoreSpec)) cutsMoreUptoCard

/-- THE SECOND FORM's CARD OF 'filigreelaw24.CutsMerge'. -/
def cutsMergeUptoCard : Claim7 := { stood := { row := cutsMergeUptoRow, standIns := [], harness := (true, "c99090f51f38de298e25ef79dfccc488b37ceb71fc6a754663ee14bc23c3604d"), looks := false }, kinds := [], alts := [], laidByText := true, laidKinds := [.data], laidTests := true, laidLooks := .later }
def CutsMergeUptoCardSaid : Prop := Claim7.holds Tryd.pinned (.plain (OpenSpec.upto cutsMergeSpec)) cutsMergeUptoCard

/-- THE SECOND FORM's CARD OF 'filigreelaw24.CutsDeep'. -/
def cutsDeepUptoCard : Claim7 := { stood := { row := cutsDeepUptoRow, standIns := [], harness := (true, "c99090f51f38de298e25ef79dfccc488b37ceb71fc6a754663ee14bc23c3604d"), looks := false }, kinds := [], alts := [], laidByText := true, laidKinds := [.data], laidTests := true, laidLooks := .later }
def CutsDeepUptoCardSaid : Prop := Claim7.holds Tryd.pinned (.plain (OpenSpec.upto cutsDeepSpec)) cutsDeepUptoCard

/-- THE SECOND FORM's CARD OF 'filigreelaw24.CutsMeans'. -/
def cutsMeansUptoCard : Claim7 := { stood := { row := cutsMeansUptoRow, standIns := [], harness := (true, "c99090f51f38de298e25ef79dfccc488b37ceb71fc6a754663ee14bc23c3604d"), looks := false }, kinds := [], alts := [], laidByText := true, laidKinds := [.data], laidTests := true, laidLooks := .later }
def CutsMeansUptoCardSaid : Prop := Claim7.holds Tryd.pinned (.plain (OpenSpec.upto cutsMeansSpec)) cutsMeansUptoCard
end Rows
end Go.Proofs.YtkhlllbceceikaaDoor
