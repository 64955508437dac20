/-
  DERIVED. GIVEN WITH THE SEED: THE CARDS: each row of YtfomhlbhcifgbaaGreatDoorRows.lean that lists a variable, with what it lists TIED to the program's text (the seventh form; the later family's looks); each row that meets fmt, with fmt's text TOLD by the authors' own Lean function (tested against real Go, not proved from fmt's source: count such statements apart). THE CARD IS WHAT COUNTS. Prove the row's statement (the work); the ties are given (YtfomhlbhcifgbaaGreatDoorTie.lean); close each card by the builder's one call (the guide's Derived/Test/ToyasCard.lean, 'card_holds'). Laid BY PROGRAM, IN A SANDBOX (cutbox-door.mjs). By AI agents, Wed Nov 11 2026. No macro, syntax, notation, axiom, sorry.
-/
import Derived.Test.YtfomhlbhcifgbaaGreatDoorRows
import GoSem.ClaimSeven
namespace Go.Proofs.YtfomhlbhcifgbaaGreatDoor
namespace Rows

/-- THE TIED CARD OF 'apographtop.TopGenealogies'. -/
def topGenealogiesCard : Claim7 := { stood := { row := topGenealogiesRow, standIns := [], harness := (true, "01326804f0fe9a7935cc22f1b10b92efb10e1be9056a89a255a47bc5b5526a61"), looks := false }, kinds := [], alts := [], laidByText := true, laidKinds := [.data, .data, .data], laidTests := true, laidLooks := .later }
def TopGenealogiesCardSaid : Prop := Claim7.holds Tryz.pinned (.plain (OpenSpec.ofChange topGenealogiesSpec)) topGenealogiesCard

/-- THE SECOND FORM's CARD OF 'apographtop.TopGenealogies'. -/
def topGenealogiesUptoCard : Claim7 := { stood := { row := topGenealogiesUptoRow, standIns := [], harness := (true, "01326804f0fe9a7935cc22f1b10b92efb10e1be9056a89a255a47bc5b5526a61"), looks := false }, kinds := [], alts := [], laidByText := true, laidKinds := [.data, .data, .data], laidTests := true, laidLooks := .later }
def TopGenealogiesUptoCardSaid : Prop := Claim7.holds Tryz.pinned (.plain (OpenSpec.upto topGenealogiesSpec)) topGenealogiesUptoCard
end Rows
end Go.Proofs.YtfomhlbhcifgbaaGreatDoor
