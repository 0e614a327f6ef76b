/-
  DERIVED. GIVEN WITH THE SEED: THE CARDS: each row of YtnhhohhhpaejmaaDoorRows.lean that lists a variable, with what it lists TIED to the program's text (the seventh form; the later family's looks); each row that meets fmt, with fmt's text TOLD by the authors' own Lean function (tested against real Go, not proved from fmt's source: count such statements apart). THE CARD IS WHAT COUNTS. Prove the row's statement (the work); the ties are given (YtnhhohhhpaejmaaDoorTie.lean); close each card by the builder's one call (the guide's Derived/Test/ToyasCard.lean, 'card_holds'). Laid BY PROGRAM, IN A SANDBOX (cutbox-door.mjs). By AI agents, Wed Nov 11 2026. No macro, syntax, notation, axiom, sorry.
-/
import Derived.Test.YtnhhohhhpaejmaaDoorRows
import GoSem.ClaimSeven
namespace Go.Proofs.YtnhhohhhpaejmaaDoor
namespace Rows

/-- THE TIED CARD OF 'arborlaw.ColourVizing'. -/
def colourVizingCard : Claim7 := { stood := { row := colourVizingRow, standIns := [], harness := (true, "aa7939336625f2d45cea65dc95c63059de246fb45301bee6d0face506dec396e"), looks := false }, kinds := [], alts := [], laidByText := true, laidKinds := [.data, .data], laidTests := true, laidLooks := .later }
def ColourVizingCardSaid : Prop := Claim7.holds Tryd.pinned (.plain (OpenSpec.ofChange colourVizingSpec)) colourVizingCard

/-- THE TIED CARD OF 'arborlaw.ColourBrooks'. -/
def colourBrooksCard : Claim7 := { stood := { row := colourBrooksRow, standIns := [], harness := (true, "aa7939336625f2d45cea65dc95c63059de246fb45301bee6d0face506dec396e"), looks := false }, kinds := [], alts := [], laidByText := true, laidKinds := [.data, .data], laidTests := true, laidLooks := .later }
def ColourBrooksCardSaid : Prop := Claim7.holds Tryd.pinned (.plain (OpenSpec.ofChange colourBrooksSpec)) colourBrooksCard

/-- THE SECOND FORM's CARD OF 'arborlaw.ColourVizing'. -/
def colourVizingUptoCard : Claim7 := { stood := { row := colourVizingUptoRow, standIns := [], harness := (true, "aa7939336625f2d45cea65dc95c63059de246fb45301bee6d0face506dec396e"), looks := false }, kinds := [], alts := [], laidByText := true, laidKinds := [.data, .data], laidTests := true, laidLooks := .later }
def ColourVizingUptoCardSaid : Prop := Claim7.holds Tryd.pinned (.plain (OpenSpec.upto colourVizingSpec)) colourVizingUptoCard

/-- THE SECOND FORM's CARD OF 'arborlaw.ColourBrooks'. -/
def colourBrooksUptoCard : Claim7 := { stood := { row := colourBrooksUptoRow, standIns := [], harness := (true, "aa7939336625f2d45cea65dc95c63059de246fb45301bee6d0face506dec396e"), looks := false }, kinds := [], alts := [], laidByText := true, laidKinds := [.data, .data], laidTests := true, laidLooks := .later }
def ColourBrooksUptoCardSaid : Prop := Claim7.holds Tryd.pinned (.plain (OpenSpec.upto colourBrooksSpec)) colourBrooksUptoCard
end Rows
end Go.Proofs.YtnhhohhhpaejmaaDoor
