/-
  DERIVED. GIVEN WITH THE SEED: THE CARDS: each row of YtnmljgjegodkaaaDoorRows.lean that lists a variable, with what it lists TIED to the program's text (the seventh form; the later family's looks); each row that meets fmt, with fmt's text TOLD by the authors' own Lean function (tested against real Go, not proved from fmt's source: count such statements apart). THE CARD IS WHAT COUNTS. Prove the row's statement (the work); the ties are given (YtnmljgjegodkaaaDoorTie.lean); close each card by the builder's one call (the guide's Derived/Test/ToyasCard.lean, 'card_holds'). Laid BY PROGRAM, IN A SANDBOX (cutbox-door.mjs). By AI agents, Wed Nov 11 2026. No macro, syntax, notation, axiom, sorry.
-/
import Derived.Test.YtnmljgjegodkaaaDoorRows
import GoSem.ClaimSeven
namespace Go.Proofs.YtnmljgjegodkaaaDoor
namespace Rows

/-- THE TIED CARD OF 'arborlaw.WidthLeast'. -/
def widthLeastCard : Claim7 := { stood := { row := widthLeastRow, standIns := [], harness := (true, "13b0fbeae44bbc064b4429fc55cc67e00e873efbbe3c38ed2e6d69691abad80f"), looks := false }, kinds := [], alts := [], laidByText := true, laidKinds := [.data, .data], laidTests := true, laidLooks := .later }
def WidthLeastCardSaid : Prop := Claim7.holds Tryd.pinned (.plain (OpenSpec.ofChange widthLeastSpec)) widthLeastCard

/-- THE TIED CARD OF 'arborlaw.WidthFits'. -/
def widthFitsCard : Claim7 := { stood := { row := widthFitsRow, standIns := [], harness := (true, "13b0fbeae44bbc064b4429fc55cc67e00e873efbbe3c38ed2e6d69691abad80f"), looks := false }, kinds := [], alts := [], laidByText := true, laidKinds := [.data, .data], laidTests := true, laidLooks := .later }
def WidthFitsCardSaid : Prop := Claim7.holds Tryd.pinned (.plain (OpenSpec.ofChange widthFitsSpec)) widthFitsCard

/-- THE TIED CARD OF 'arborlaw.WidthHeaviest'. -/
def widthHeaviestCard : Claim7 := { stood := { row := widthHeaviestRow, standIns := [], harness := (true, "13b0fbeae44bbc064b4429fc55cc67e00e873efbbe3c38ed2e6d69691abad80f"), looks := false }, kinds := [], alts := [], laidByText := true, laidKinds := [.data, .data], laidTests := true, laidLooks := .later }
def WidthHeaviestCardSaid : Prop := Claim7.holds Tryd.pinned (.plain (OpenSpec.ofChange widthHeaviestSpec)) widthHeaviestCard

/-- THE SECOND FORM's CARD OF 'arborlaw.WidthLeast'. -/
def widthLeastUptoCard : Claim7 := { stood := { row := widthLeastUptoRow, standIns := [], harness := (true, "13b0fbeae44bbc064b4429fc55cc67e00e873efbbe3c38ed2e6d69691abad80f"), looks := false }, kinds := [], alts := [], laidByText := true, laidKinds := [.data, .data], laidTests := true, laidLooks := .later }
def WidthLeastUptoCardSaid : Prop := Claim7.holds Tryd.pinned (.plain (OpenSpec.upto widthLeastSpec)) widthLeastUptoCard

/-- THE SECOND FORM's CARD OF 'arborlaw.WidthFits'. -/
def widthFitsUptoCard : Claim7 := { stood := { row := widthFitsUptoRow, standIns := [], harness := (true, "13b0fbeae44bbc064b4429fc55cc67e00e873efbbe3c38ed2e6d69691abad80f"), looks := false }, kinds := [], alts := [], laidByText := true, laidKinds := [.data, .data], laidTests := true, laidLooks := .later }
def WidthFitsUptoCardSaid : Prop := Claim7.holds Tryd.pinned (.plain (OpenSpec.upto widthFitsSpec)) widthFitsUptoCard

/-- THE SECOND FORM's CARD OF 'arborlaw.WidthHeaviest'. -/
def widthHeaviestUptoCard : Claim7 := { stood := { row := widthHeaviestUptoRow, standIns := [], harness := (true, "13b0fbeae44bbc064b4429fc55cc67e00e873efbbe3c38ed2e6d69691abad80f"), looks := false }, kinds := [], alts := [], laidByText := true, laidKinds := [.data, .data], laidTests := true, laidLooks := .later }
def WidthHeaviestUptoCardSaid : Prop := Claim7.holds Tryd.pinned (.plain (OpenSpec.upto widthHeaviestSpec)) widthHeaviestUptoCard
end Rows
end Go.Proofs.YtnmljgjegodkaaaDoor
