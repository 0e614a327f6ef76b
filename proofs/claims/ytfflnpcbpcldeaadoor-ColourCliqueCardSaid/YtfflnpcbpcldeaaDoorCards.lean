/-
  DERIVED. GIVEN WITH THE SEED: THE CARDS: each row of YtfflnpcbpcldeaaDoorRows.lean that lists a variable, with what it lists TIED to the program's text (the seventh form; the later family's looks); each row that meets fmt, with fmt's text TOLD by the authors' own Lean function (tested against real Go, not proved from fmt's source: count such statements apart). THE CARD IS WHAT COUNTS. Prove the row's statement (the work); the ties are given (YtfflnpcbpcldeaaDoorTie.lean); close each card by the builder's one call (the guide's Derived/Test/ToyasCard.lean, 'card_holds'). Laid BY PROGRAM, IN A SANDBOX (cutbox-door.mjs). By AI agents, Wed Nov 11 2026. No macro, syntax, notation, axiom, sorry.
-/
import Derived.Test.YtfflnpcbpcldeaaDoorRows
import GoSem.ClaimSeven
namespace Go.Proofs.YtfflnpcbpcldeaaDoor
namespace Rows

/-- THE TIED CARD OF 'arborlaw.ColourPoly'. -/
def colourPolyCard : Claim7 := { stood := { row := colourPolyRow, standIns := [], harness := (true, "1498eac37559bf567fd455c05d3334be37d8971e1ee8eea28d82a6a1f7cfae90"), looks := false }, kinds := [], alts := [], laidByText := true, laidKinds := [.data, .data], laidTests := true, laidLooks := .later }
def ColourPolyCardSaid : Prop := Claim7.holds Tryd.pinned (.plain (OpenSpec.ofChange colourPolySpec)) colourPolyCard

/-- THE TIED CARD OF 'arborlaw.ColourNumber'. -/
def colourNumberCard : Claim7 := { stood := { row := colourNumberRow, standIns := [], harness := (true, "1498eac37559bf567fd455c05d3334be37d8971e1ee8eea28d82a6a1f7cfae90"), looks := false }, kinds := [], alts := [], laidByText := true, laidKinds := [.data, .data], laidTests := true, laidLooks := .later }
def ColourNumberCardSaid : Prop := Claim7.holds Tryd.pinned (.plain (OpenSpec.ofChange colourNumberSpec)) colourNumberCard

/-- THE TIED CARD OF 'arborlaw.ColourClique'. -/
def colourCliqueCard : Claim7 := { stood := { row := colourCliqueRow, standIns := [], harness := (true, "1498eac37559bf567fd455c05d3334be37d8971e1ee8eea28d82a6a1f7cfae90"), looks := false }, kinds := [], alts := [], laidByText := true, laidKinds := [.data, .data], laidTests := true, laidLooks := .later }
def ColourCliqueCardSaid : Prop := Claim7.holds Tryd.pinned (.plain (OpenSpec.ofChange colourCliqueSpec)) colourCliqueCard

/-- THE SECOND FORM's CARD OF 'arborlaw.ColourPoly'. -/
def colourPolyUptoCard : Claim7 := { stood := { row := colourPolyUptoRow, standIns := [], harness := (true, "1498eac37559bf567fd455c05d3334be37d8971e1ee8eea28d82a6a1f7cfae90"), looks := false }, kinds := [], alts := [], laidByText := true, laidKinds := [.data, .data], laidTests := true, laidLooks := .later }
def ColourPolyUptoCardSaid : Prop := Claim7.holds Tryd.pinned (.plain (OpenSpec.upto colourPolySpec)) colourPolyUptoCard

/-- THE SECOND FORM's CARD OF 'arborlaw.ColourNumber'. -/
def colourNumberUptoCard : Claim7 := { stood := { row := colourNumberUptoRow, standIns := [], harness := (true, "1498eac37559bf567fd455c05d3334be37d8971e1ee8eea28d82a6a1f7cfae90"), looks := false }, kinds := [], alts := [], laidByText := true, laidKinds := [.data, .data], laidTests := true, laidLooks := .later }
def ColourNumberUptoCardSaid : Prop := Claim7.holds Tryd.pinned (.plain (OpenSpec.upto colourNumberSpec)) colourNumberUptoCard

/-- THE SECOND FORM's CARD OF 'arborlaw.ColourClique'. -/
def colourCliqueUptoCard : Claim7 := { stood := { row := colourCliqueUptoRow, standIns := [], harness := (true, "1498eac37559bf567fd455c05d3334be37d8971e1ee8eea28d82a6a1f7cfae90"), looks := false }, kinds := [], alts := [], laidByText := true, laidKinds := [.data, .data], laidTests := true, laidLooks := .later }
def ColourCliqueUptoCardSaid : Prop := Claim7.holds Tryd.pinned (.plain (OpenSpec.upto colourCliqueSpec)) colourCliqueUptoCard
end Rows
end Go.Proofs.YtfflnpcbpcldeaaDoor
