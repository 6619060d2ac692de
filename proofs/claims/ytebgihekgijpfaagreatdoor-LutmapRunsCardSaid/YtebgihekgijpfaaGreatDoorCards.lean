/-
  DERIVED. GIVEN WITH THE SEED: THE CARDS: each row of YtebgihekgijpfaaGreatDoorRows.lean that lists a variable, with what it lists TIED to the program's text (the seventh form; the later family's looks); each row that meets fmt, with fmt's text TOLD by the authors' own Lean function (tested against real Go, not proved from fmt's source: count such statements apart). THE CARD IS WHAT COUNTS. Prove the row's statement (the work); the ties are given (YtebgihekgijpfaaGreatDoorTie.lean); close each card by the builder's one call (the guide's Derived/Test/ToyasCard.lean, 'card_holds'). Laid BY PROGRAM, IN A SANDBOX (cutbox-door.mjs). By AI agents, Wed Nov 11 2026. No macro, syntax, notation, axiom, sorry.
-/
import Derived.Test.YtebgihekgijpfaaGreatDoorRows
import GoSem.ClaimSeven
namespace Go.Proofs.YtebgihekgijpfaaGreatDoor
namespace Rows

/-- THE TIED CARD OF 'filigreelaw25.LutmapMakes'. -/
def lutmapMakesCard : Claim7 := { stood := { row := lutmapMakesRow, standIns := [], harness := (true, "b12b9edfe68e4078a8df942fb7542c81ad768532638a751506315bd4e411a916"), looks := false }, kinds := [], alts := [], laidByText := true, laidKinds := [.data], laidTests := true, laidLooks := .later }
def LutmapMakesCardSaid : Prop := Claim7.holds Tryz.pinned (.plain (OpenSpec.ofChange lutmapMakesSpec)) lutmapMakesCard

/-- THE TIED CARD OF 'filigreelaw25.LutmapLooks'. -/
def lutmapLooksCard : Claim7 := { stood := { row := lutmapLooksRow, standIns := [], harness := (true, "b12b9edfe68e4078a8df942fb7542c81ad768532638a751506315bd4e411a916"), looks := false }, kinds := [], alts := [], laidByText := true, laidKinds := [.data], laidTests := true, laidLooks := .later }
def LutmapLooksCardSaid : Prop := Claim7.holds Tryz.pinned (.plain (OpenSpec.ofChange lutmapLooksSpec)) lutmapLooksCard

/-- THE TIED CARD OF 'filigreelaw25.LutmapPlays'. -/
def lutmapPlaysCard : Claim7 := { stood := { row := lutmapPlaysRow, standIns := [], harness := (true, "b12b9edfe68e4078a8df942fb7542c81ad768532638a751506315bd4e411a916"), looks := false }, kinds := [], alts := [], laidByText := true, laidKinds := [.data], laidTests := true, laidLooks := .later }
def LutmapPlaysCardSaid : Prop := Claim7.holds Tryz.pinned (.plain (OpenSpec.ofChange lutmapPlaysSpec)) lutmapPlaysCard

/-- THE TIED CARD OF 'filigreelaw25.LutmapRuns'. -/
def lutmapRunsCard : Claim7 := { stood := { row := lutmapRunsRow, standIns := [], harness := (true, "b12b9edfe68e4078a8df942fb7542c81ad768532638a751506315bd4e411a916"), looks := false }, kinds := [], alts := [], laidByText := true, laidKinds := [.data], laidTests := true, laidLooks := .later }
def LutmapRunsCardSaid : Prop := Claim7.holds Tryz.pinned (.plain (OpenSpec.ofChange lutmapRunsSpec)) lutmapRunsCard

/-- THE TIED CARD OF 'filigreelaw25.LutmapSame'. -/
def lutmapSameCard : Claim7 := { stood := { row := lutmapSameRow, standIns := [], harness := (true, "b12b9edfe68e4078a8df942fb7542c81ad768532638a751506315bd4e411a916"), looks := false }, kinds := [], alts := [], laidByText := true, laidKinds := [.data], laidTests := true, laidLooks := .later }
def LutmapSameCardSaid : Prop := Claim7.holds Tryz.pinned (.plain (OpenSpec.ofChange lutmapSameSpec)) lutmapSameCard

/-- THE SECOND FORM's CARD OF 'filigreelaw25.LutmapMakes'. -/
def lutmapMakesUptoCard : Claim7 := { stood := { row := lutmapMakesUptoRow, standIns := [], harness := (true, "b12b9edfe68e4078a8df942fb7542c81ad768532638a751506315bd4e411a916"), looks := false }, kinds := [], alts := [], laidByText := true, laidKinds := [.data], laidTests := true, laidLooks := .later }
def LutmapMakesUptoCardSaid : Prop := Claim7.holds Tryz.pinned (.plain (OpenSpec.upto lutmapMakesSpec)) lutmapMakesUptoCard

/-- THE SECOND FORM's CARD OF 'filigreelaw25.LutmapLooks'. -/
def lutmapLooksUptoCard : Claim7 := { stood := { row := lutmapLooksUptoRow, standIns := [], harness := (true, "b12b9edfe68e4078a8df942fb7542c81ad768532638a751506315bd4e411a916"), looks := false }, kinds := [], alts := [], laidByText := true, laidKinds := [.data], laidTests := true, laidLooks := .later }
def LutmapLooksUptoCardSaid : Prop := Claim7.holds Tryz.pinned (.plain (OpenSpec.upto lutmapLooksSpec)) lutmapLooksUptoCard

/-- THE SECOND FORM's CARD OF 'filigreelaw25.LutmapPlays'. -/
def lutmapPlaysUptoCard : Claim7 := { stood := { row := lutmapPlaysUptoRow, standIns := [], harness := (true, "b12b9edfe68e4078a8df942fb7542c81ad768532638a751506315bd4e411a916"), looks := false }, kinds := [], alts := [], laidByText := true, laidKinds := [.data], laidTests := true, laidLooks := .later }
def LutmapPlaysUptoCardSaid : Prop := Claim7.holds Tryz.pinned (.plain (OpenSpec.upto lutmapPlaysSpec)) lutmapPlaysUptoCard

/-- THE SECOND FORM's CARD OF 'filigreelaw25.LutmapRuns'. -/
def lutmapRunsUptoCard : Claim7 := { stood := { row := lutmapRunsUptoRow, standIns := [], harness := (true, "b12b9edfe68e4078a8df942fb7542c81ad768532638a751506315bd4e411a916"), looks := false }, kinds := [], alts := [], laidByText := true, laidKinds := [.data], laidTests := true, laidLooks := .later }
def LutmapRunsUptoCardSaid : Prop := Claim7.holds Tryz.pinned (.plain (OpenSpec.upto lutmapRunsSpec)) lutmapRunsUptoCard

/-- THE SECOND FORM's CARD OF 'filigreelaw25.LutmapSame'. -/
def lutmapSameUptoCard : Claim7 := { stood := { row := lutmapSameUptoRow, standIns := [], harness := (true, "b12b9edfe68e4078a8df942fb7542c81ad768532638a751506315bd4e411a916"), looks := false }, kinds := [], alts := [], laidByText := true, laidKinds := [.data], laidTests := true, laidLooks := .later }
def LutmapSameUptoCardSaid : Prop := Claim7.holds Tryz.pinned (.plain (OpenSpec.upto lutmapSameSpec)) lutmapSameUptoCard
end Rows
end Go.Proofs.YtebgihekgijpfaaGreatDoor
