/-
  DERIVED. GIVEN WITH THE SEED: THE CARDS: each row of YtgmkehbebpljjaaGreatDoorRows.lean that lists a variable, with what it lists TIED to the program's text (the seventh form; the later family's looks); each row that meets fmt, with fmt's text TOLD by the authors' own Lean function (tested against real Go, not proved from fmt's source: count such statements apart). THE CARD IS WHAT COUNTS. Prove the row's statement (the work); the ties are given (YtgmkehbebpljjaaGreatDoorTie.lean); close each card by the builder's one call (the guide's Derived/Test/ToyasCard.lean, 'card_holds'). Laid BY PROGRAM, IN A SANDBOX (cutbox-door.mjs). By AI agents, Wed Nov 11 2026. No macro, syntax, notation, axiom, sorry.
-/
import Derived.Test.YtgmkehbebpljjaaGreatDoorRows
import GoSem.ClaimSeven
namespace Go.Proofs.YtgmkehbebpljjaaGreatDoor
namespace Rows

/-- THE TIED CARD OF 'factotumlaw14.TextWrites'. -/
def textWritesCard : Claim7 := { stood := { row := textWritesRow, standIns := [], harness := (true, "dd6092e1b437f634c1cddede68ceb9d5523c3d2d96418f32a0ecc6f5aac17f5e"), looks := true }, kinds := [], alts := [], laidByText := true, laidKinds := [.data, .data, .data, .data, .sentinel, .sentinel, .pinned], laidTests := true, laidLooks := .later }
def TextWritesCardSaid : Prop := Claim7.holds Tryz.pinned (.plain (OpenSpec.ofChange textWritesSpec)) textWritesCard

/-- THE TIED CARD OF 'factotumlaw14.TextReads'. -/
def textReadsCard : Claim7 := { stood := { row := textReadsRow, standIns := [], harness := (true, "dd6092e1b437f634c1cddede68ceb9d5523c3d2d96418f32a0ecc6f5aac17f5e"), looks := true }, kinds := [], alts := [], laidByText := true, laidKinds := [.data, .data, .data, .data, .sentinel, .sentinel, .pinned], laidTests := true, laidLooks := .later }
def TextReadsCardSaid : Prop := Claim7.holds Tryz.pinned (.plain (OpenSpec.ofChange textReadsSpec)) textReadsCard

/-- THE SECOND FORM's CARD OF 'factotumlaw14.TextWrites'. -/
def textWritesUptoCard : Claim7 := { stood := { row := textWritesUptoRow, standIns := [], harness := (true, "dd6092e1b437f634c1cddede68ceb9d5523c3d2d96418f32a0ecc6f5aac17f5e"), looks := true }, kinds := [], alts := [], laidByText := true, laidKinds := [.data, .data, .data, .data, .sentinel, .sentinel, .pinned], laidTests := true, laidLooks := .later }
def TextWritesUptoCardSaid : Prop := Claim7.holds Tryz.pinned (.plain (OpenSpec.upto textWritesSpec)) textWritesUptoCard

/-- THE SECOND FORM's CARD OF 'factotumlaw14.TextReads'. -/
def textReadsUptoCard : Claim7 := { stood := { row := textReadsUptoRow, standIns := [], harness := (true, "dd6092e1b437f634c1cddede68ceb9d5523c3d2d96418f32a0ecc6f5aac17f5e"), looks := true }, kinds := [], alts := [], laidByText := true, laidKinds := [.data, .data, .data, .data, .sentinel, .sentinel, .pinned], laidTests := true, laidLooks := .later }
def TextReadsUptoCardSaid : Prop := Claim7.holds Tryz.pinned (.plain (OpenSpec.upto textReadsSpec)) textReadsUptoCard
end Rows
end Go.Proofs.YtgmkehbebpljjaaGreatDoor
