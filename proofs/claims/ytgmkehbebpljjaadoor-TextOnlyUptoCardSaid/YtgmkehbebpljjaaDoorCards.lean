/-
  DERIVED. GIVEN WITH THE SEED: THE CARDS: each row of YtgmkehbebpljjaaDoorRows.lean that lists a variable, with what it lists TIED to the program's text (the seventh form; the later family's looks); each row that meets fmt, with fmt's text TOLD by the authors' own Lean function (tested against real Go, not proved from fmt's source: count such statements apart). THE CARD IS WHAT COUNTS. Prove the row's statement (the work); the ties are given (YtgmkehbebpljjaaDoorTie.lean); close each card by the builder's one call (the guide's Derived/Test/ToyasCard.lean, 'card_holds'). Laid BY PROGRAM, IN A SANDBOX (cutbox-door.mjs). By AI agents, Wed Nov 11 2026. No macro, syntax, notation, axiom, sorry.
-/
import Derived.Test.YtgmkehbebpljjaaDoorRows
import GoSem.ClaimSeven
namespace Go.Proofs.YtgmkehbebpljjaaDoor
namespace Rows

/-- THE TIED CARD OF 'factotumlaw14.TextBack'. -/
def textBackCard : Claim7 := { stood := { row := textBackRow, standIns := [], harness := (true, "165ec7bda10120c7a40368307c4c39e4447c00c780fd218982c8e4d3ea4315ea"), looks := true }, kinds := [], alts := [], laidByText := true, laidKinds := [.data, .data, .data, .data, .sentinel, .sentinel, .pinned], laidTests := true, laidLooks := .later }
def TextBackCardSaid : Prop := Claim7.holds Tryd.pinned (.plain (OpenSpec.ofChange textBackSpec)) textBackCard

/-- THE TIED CARD OF 'factotumlaw14.TextOnly'. -/
def textOnlyCard : Claim7 := { stood := { row := textOnlyRow, standIns := [], harness := (true, "165ec7bda10120c7a40368307c4c39e4447c00c780fd218982c8e4d3ea4315ea"), looks := true }, kinds := [], alts := [], laidByText := true, laidKinds := [.data, .data, .data, .data, .sentinel, .sentinel, .pinned], laidTests := true, laidLooks := .later }
def TextOnlyCardSaid : Prop := Claim7.holds Tryd.pinned (.plain (OpenSpec.ofChange textOnlySpec)) textOnlyCard

/-- THE TIED CARD OF 'factotumlaw14.TextCode'. -/
def textCodeCard : Claim7 := { stood := { row := textCodeRow, standIns := [], harness := (true, "165ec7bda10120c7a40368307c4c39e4447c00c780fd218982c8e4d3ea4315ea"), looks := true }, kinds := [], alts := [], laidByText := true, laidKinds := [.data, .data, .data, .data, .sentinel, .sentinel, .pinned], laidTests := true, laidLooks := .later }
def TextCodeCardSaid : Prop := Claim7.holds Tryd.pinned (.plain (OpenSpec.ofChange textCodeSpec)) textCodeCard

/-- THE SECOND FORM's CARD OF 'factotumlaw14.TextBack'. -/
def textBackUptoCard : Claim7 := { stood := { row := textBackUptoRow, standIns := [], harness := (true, "165ec7bda10120c7a40368307c4c39e4447c00c780fd218982c8e4d3ea4315ea"), looks := true }, kinds := [], alts := [], laidByText := true, laidKinds := [.data, .data, .data, .data, .sentinel, .sentinel, .pinned], laidTests := true, laidLooks := .later }
def TextBackUptoCardSaid : Prop := Claim7.holds Tryd.pinned (.plain (OpenSpec.upto textBackSpec)) textBackUptoCard

/-- THE SECOND FORM's CARD OF 'factotumlaw14.TextOnly'. -/
def textOnlyUptoCard : Claim7 := { stood := { row := textOnlyUptoRow, standIns := [], harness := (true, "165ec7bda10120c7a40368307c4c39e4447c00c780fd218982c8e4d3ea4315ea"), looks := true }, kinds := [], alts := [], laidByText := true, laidKinds := [.data, .data, .data, .data, .sentinel, .sentinel, .pinned], laidTests := true, laidLooks := .later }
def TextOnlyUptoCardSaid : Prop := Claim7.holds Tryd.pinned (.plain (OpenSpec.upto textOnlySpec)) textOnlyUptoCard

/-- THE SECOND FORM's CARD OF 'factotumlaw14.TextCode'. -/
def textCodeUptoCard : Claim7 := { stood := { row := textCodeUptoRow, standIns := [], harness := (true, "165ec7bda10120c7a40368307c4c39e4447c00c780fd218982c8e4d3ea4315ea"), looks := true }, kinds := [], alts := [], laidByText := true, laidKinds := [.data, .data, .data, .data, .sentinel, .sentinel, .pinned], laidTests := true, laidLooks := .later }
def TextCodeUptoCardSaid : Prop := Claim7.holds Tryd.pinned (.plain (OpenSpec.upto textCodeSpec)) textCodeUptoCard
end Rows
end Go.Proofs.YtgmkehbebpljjaaDoor
