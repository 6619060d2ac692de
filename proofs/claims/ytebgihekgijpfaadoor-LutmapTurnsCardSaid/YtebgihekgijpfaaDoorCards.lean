/-
  DERIVED. GIVEN WITH THE SEED: THE CARDS: each row of YtebgihekgijpfaaDoorRows.lean that lists a variable, with what it lists TIED to the program's text (the seventh form; the later family's looks); each row that meets fmt, with fmt's text TOLD by the authors' own Lean function (tested against real Go, not proved from fmt's source: count such statements apart). THE CARD IS WHAT COUNTS. Prove the row's statement (the work); the ties are given (YtebgihekgijpfaaDoorTie.lean); close each card by the builder's one call (the guide's Derived/Test/ToyasCard.lean, 'card_holds'). Laid BY PROGRAM, IN A SANDBOX (cutbox-door.mjs). By AI agents, Wed Nov 11 2026. No macro, syntax, notation, axiom, sorry.
-/
import Derived.Test.YtebgihekgijpfaaDoorRows
import GoSem.ClaimSeven
namespace Go.Proofs.YtebgihekgijpfaaDoor
namespace Rows

/-- THE TIED CARD OF 'filigreelaw25.LutmapShapes'. -/
def lutmapShapesCard : Claim7 := { stood := { row := lutmapShapesRow, standIns := [], harness := (true, "00331239534aef228b591141e30b14fbf2ec339d2cb3f7114bd4ce58ea7045b1"), looks := false }, kinds := [], alts := [], laidByText := true, laidKinds := [.data], laidTests := true, laidLooks := .later }
def LutmapShapesCardSaid : Prop := Claim7.holds Tryd.pinned (.plain (OpenSpec.ofChange lutmapShapesSpec)) lutmapShapesCard

/-- THE TIED CARD OF 'filigreelaw25.LutmapUsed'. -/
def lutmapUsedCard : Claim7 := { stood := { row := lutmapUsedRow, standIns := [], harness := (true, "00331239534aef228b591141e30b14fbf2ec339d2cb3f7114bd4ce58ea7045b1"), looks := false }, kinds := [], alts := [], laidByText := true, laidKinds := [.data], laidTests := true, laidLooks := .later }
def LutmapUsedCardSaid : Prop := Claim7.holds Tryd.pinned (.plain (OpenSpec.ofChange lutmapUsedSpec)) lutmapUsedCard

/-- THE TIED CARD OF 'filigreelaw25.LutmapTurns'. -/
def lutmapTurnsCard : Claim7 := { stood := { row := lutmapTurnsRow, standIns := [], harness := (true, "00331239534aef228b591141e30b14fbf2ec339d2cb3f7114bd4ce58ea7045b1"), looks := false }, kinds := [], alts := [], laidByText := true, laidKinds := [.data], laidTests := true, laidLooks := .later }
def LutmapTurnsCardSaid : Prop := Claim7.holds Tryd.pinned (.plain (OpenSpec.ofChange lutmapTurnsSpec)) lutmapTurnsCard

/-- THE TIED CARD OF 'filigreelaw25.LutmapDeep'. -/
def lutmapDeepCard : Claim7 := { stood := { row := lutmapDeepRow, standIns := [], harness := (true, "00331239534aef228b591141e30b14fbf2ec339d2cb3f7114bd4ce58ea7045b1"), looks := false }, kinds := [], alts := [], laidByText := true, laidKinds := [.data], laidTests := true, laidLooks := .later }
def LutmapDeepCardSaid : Prop := Claim7.holds Tryd.pinned (.plain (OpenSpec.ofChange lutmapDeepSpec)) lutmapDeepCard

/-- THE TIED CARD OF 'filigreelaw25.LutmapEvals'. -/
def lutmapEvalsCard : Claim7 := { stood := { row := lutmapEvalsRow, standIns := [], harness := (true, "00331239534aef228b591141e30b14fbf2ec339d2cb3f7114bd4ce58ea7045b1"), looks := false }, kinds := [], alts := [], laidByText := true, laidKinds := [.data], laidTests := true, laidLooks := .later }
def LutmapEvalsCardSaid : Prop := Claim7.holds Tryd.pinned (.plain (OpenSpec.ofChange lutmapEvalsSpec)) lutmapEvalsCard

/-- THE SECOND FORM's CARD OF 'filigreelaw25.LutmapShapes'. -/
def lutmapShapesUptoCard : Claim7 := { stood := { row := lutmapShapesUptoRow, standIns := [], harness := (true, "00331239534aef228b591141e30b14fbf2ec339d2cb3f7114bd4ce58ea7045b1"), looks := false }, kinds := [], alts := [], laidByText := true, laidKinds := [.data], laidTests := true, laidLooks := .later }
def LutmapShapesUptoCardSaid : Prop := Claim7.holds Tryd.pinned (.plain (OpenSpec.upto lutmapShapesSpec)) lutmapShapesUptoCard

/-- THE SECOND FORM's CARD OF 'filigreelaw25.LutmapUsed'. -/
def lutmapUsedUptoCard : Claim7 := { stood := { row := lutmapUsedUptoRow, standIns := [], harness := (true, "00331239534aef228b591141e30b14fbf2ec339d2cb3f7114bd4ce58ea7045b1"), looks := false }, kinds := [], alts := [], laidByText := true, laidKinds := [.data], laidTests := true, laidLooks := .later }
def LutmapUsedUptoCardSaid : Prop := Claim7.holds Tryd.pinned (.plain (OpenSpec.upto lutmapUsedSpec)) lutmapUsedUptoCard

/-- THE SECOND FORM's CARD OF 'filigreelaw25.LutmapTurns'. -/
def lutmapTurnsUptoCard : Claim7 := { stood := { row := lutmapTurnsUptoRow, standIns := [], harness := (true, "00331239534aef228b591141e30b14fbf2ec339d2cb3f7114bd4ce58ea7045b1"), looks := false }, kinds := [], alts := [], laidByText := true, laidKinds := [.data], laidTests := true, laidLooks := .later }
def LutmapTurnsUptoCardSaid : Prop := Claim7.holds Tryd.pinned (.plain (OpenSpec.upto lutmapTurnsSpec)) lutmapTurnsUptoCard

/-- THE SECOND FORM's CARD OF 'filigreelaw25.LutmapDeep'. -/
def lutmapDeepUptoCard : Claim7 := { stood := { row := lutmapDeepUptoRow, standIns := [], harness := (true, "00331239534aef228b591141e30b14fbf2ec339d2cb3f7114bd4ce58ea7045b1"), looks := false }, kinds := [], alts := [], laidByText := true, laidKinds := [.data], laidTests := true, laidLooks := .later }
def LutmapDeepUptoCardSaid : Prop := Claim7.holds Tryd.pinned (.plain (OpenSpec.upto lutmapDeepSpec)) lutmapDeepUptoCard

/-- THE SECOND FORM's CARD OF 'filigreelaw25.LutmapEvals'. -/
def lutmapEvalsUptoCard : Claim7 := { stood := { row := lutmapEvalsUptoRow, standIns := [], harness := (true, "00331239534aef228b591141e30b14fbf2ec339d2cb3f7114bd4ce58ea7045b1"), looks := false }, kinds := [], alts := [], laidByText := true, laidKinds := [.data], laidTests := true, laidLooks := .later }
def LutmapEvalsUptoCardSaid : Prop := Claim7.holds Tryd.pinned (.plain (OpenSpec.upto lutmapEvalsSpec)) lutmapEvalsUptoCard
end Rows
end Go.Proofs.YtebgihekgijpfaaDoor
