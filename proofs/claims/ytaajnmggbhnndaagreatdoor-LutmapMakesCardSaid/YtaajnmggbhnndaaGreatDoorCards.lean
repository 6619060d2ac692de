/-
  DERIVED. GIVEN WITH THE SEED: THE CARDS: each row of YtaajnmggbhnndaaGreatDoorRows.lean that lists a variable, with what it lists TIED to the program's text (the seventh form; the later family's looks); each row that meets fmt, with fmt's text TOLD by the authors' own Lean function (tested against real Go, not proved from fmt's source: count such statements apart). THE CARD IS WHAT COUNTS. Prove the row's statement (the work); the ties are given (YtaajnmggbhnndaaGreatDoorTie.lean); close each card by the builder's one call (the guide's Derived/Test/ToyasCard.lean, 'card_holds'). Laid BY PROGRAM, IN A SANDBOX (cutbox-door.mjs). By AI agents, Wed Nov 11 2026. No macro, syntax, notation, axiom, sorry.
-/
import Derived.Test.YtaajnmggbhnndaaGreatDoorRows
import GoSem.ClaimSeven
namespace Go.Proofs.YtaajnmggbhnndaaGreatDoor
namespace Rows

/-- THE TIED CARD OF 'filigreelaw25.LutmapMakes'. -/
def lutmapMakesCard : Claim7 := { stood := { row := lutmapMakesRow, standIns := [], harness := (true, "928ac381d6ca3117cee2ac110e388737a0ad0495643085167924ed6092bada5b"), looks := false }, kinds := [], alts := [], laidByText := true, laidKinds := [.data], laidTests := true, laidLooks := .later }
def LutmapMakesCardSaid : Prop := Claim7.holds Tryz.pinned (.plain (OpenSpec.ofChange lutmapMakesSpec)) lutmapMakesCard

/-- THE SECOND FORM's CARD OF 'filigreelaw25.LutmapMakes'. -/
def lutmapMakesUptoCard : Claim7 := { stood := { row := lutmapMakesUptoRow, standIns := [], harness := (true, "928ac381d6ca3117cee2ac110e388737a0ad0495643085167924ed6092bada5b"), looks := false }, kinds := [], alts := [], laidByText := true, laidKinds := [.data], laidTests := true, laidLooks := .later }
def LutmapMakesUptoCardSaid : Prop := Claim7.holds Tryz.pinned (.plain (OpenSpec.upto lutmapMakesSpec)) lutmapMakesUptoCard
end Rows
end Go.Proofs.YtaajnmggbhnndaaGreatDoor
