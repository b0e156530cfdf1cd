/-
  DERIVED. GIVEN WITH THE SEED: THE CARDS: each row of YtbhdhhgpfanmcaaGreatDoorRows.lean that lists a variable, with what it lists TIED to the program's text (the seventh form; the later family's looks); each row that meets fmt, with fmt's text TOLD by the authors' own Lean function (tested against real Go, not proved from fmt's source: count such statements apart). THE CARD IS WHAT COUNTS. Prove the row's statement (the work); the ties are given (YtbhdhhgpfanmcaaGreatDoorTie.lean); close each card by the builder's one call (the guide's Derived/Test/ToyasCard.lean, 'card_holds'). Laid BY PROGRAM, IN A SANDBOX (cutbox-door.mjs). By AI agents, Wed Nov 11 2026. No macro, syntax, notation, axiom, sorry.
-/
import Derived.Test.YtbhdhhgpfanmcaaGreatDoorRows
import GoSem.ClaimSeven
namespace Go.Proofs.YtbhdhhgpfanmcaaGreatDoor
namespace Rows

/-- THE TIED CARD OF 'factotumlaw30.DumpOnly'. -/
def dumpOnlyCard : Claim7 := { stood := { row := dumpOnlyRow, standIns := [], harness := (true, "d938c0c5e20da47b29b094c88a16ccd28edc1c637e10745d0d47edca7917f416"), looks := true }, kinds := [], alts := [], laidByText := true, laidKinds := [.data, .pinned], laidTests := true, laidLooks := .later }
def DumpOnlyCardSaid : Prop := Claim7.holds Tryz.pinned (.plain (OpenSpec.ofChange dumpOnlySpec)) dumpOnlyCard

/-- THE TIED CARD OF 'factotumlaw30.DumpReads'. -/
def dumpReadsCard : Claim7 := { stood := { row := dumpReadsRow, standIns := [], harness := (true, "d938c0c5e20da47b29b094c88a16ccd28edc1c637e10745d0d47edca7917f416"), looks := true }, kinds := [], alts := [], laidByText := true, laidKinds := [.data, .pinned], laidTests := true, laidLooks := .later }
def DumpReadsCardSaid : Prop := Claim7.holds Tryz.pinned (.plain (OpenSpec.ofChange dumpReadsSpec)) dumpReadsCard

/-- THE TIED CARD OF 'factotumlaw30.DumpBack'. -/
def dumpBackCard : Claim7 := { stood := { row := dumpBackRow, standIns := [], harness := (true, "d938c0c5e20da47b29b094c88a16ccd28edc1c637e10745d0d47edca7917f416"), looks := true }, kinds := [], alts := [], laidByText := true, laidKinds := [.data, .pinned], laidTests := true, laidLooks := .later }
def DumpBackCardSaid : Prop := Claim7.holds Tryz.pinned (.plain (OpenSpec.ofChange dumpBackSpec)) dumpBackCard

/-- THE TIED CARD OF 'factotumlaw30.DumpWrites'. -/
def dumpWritesCard : Claim7 := { stood := { row := dumpWritesRow, standIns := [], harness := (true, "d938c0c5e20da47b29b094c88a16ccd28edc1c637e10745d0d47edca7917f416"), looks := true }, kinds := [], alts := [], laidByText := true, laidKinds := [.data, .pinned], laidTests := true, laidLooks := .later }
def DumpWritesCardSaid : Prop := Claim7.holds Tryz.pinned (.plain (OpenSpec.ofChange dumpWritesSpec)) dumpWritesCard

/-- THE SECOND FORM's CARD OF 'factotumlaw30.DumpOnly'. -/
def dumpOnlyUptoCard : Claim7 := { stood := { row := dumpOnlyUptoRow, standIns := [], harness := (true, "d938c0c5e20da47b29b094c88a16ccd28edc1c637e10745d0d47edca7917f416"), looks := true }, kinds := [], alts := [], laidByText := true, laidKinds := [.data, .pinned], laidTests := true, laidLooks := .later }
def DumpOnlyUptoCardSaid : Prop := Claim7.holds Tryz.pinned (.plain (OpenSpec.upto dumpOnlySpec)) dumpOnlyUptoCard

/-- THE SECOND FORM's CARD OF 'factotumlaw30.DumpReads'. -/
def dumpReadsUptoCard : Claim7 := { stood := { row := dumpReadsUptoRow, standIns := [], harness := (true, "d938c0c5e20da47b29b094c88a16ccd28edc1c637e10745d0d47edca7917f416"), looks := true }, kinds := [], alts := [], laidByText := true, laidKinds := [.data, .pinned], laidTests := true, laidLooks := .later }
def DumpReadsUptoCardSaid : Prop := Claim7.holds Tryz.pinned (.plain (OpenSpec.upto dumpReadsSpec)) dumpReadsUptoCard

/-- THE SECOND FORM's CARD OF 'factotumlaw30.DumpBack'. -/
def dumpBackUptoCard : Claim7 := { stood := { row := dumpBackUptoRow, standIns := [], harness := (true, "d938c0c5e20da47b29b094c88a16ccd28edc1c637e10745d0d47edca7917f416"), looks := true }, kinds := [], alts := [], laidByText := true, laidKinds := [.data, .pinned], laidTests := true, laidLooks := .later }
def DumpBackUptoCardSaid : Prop := Claim7.holds Tryz.pinned (.plain (OpenSpec.upto dumpBackSpec)) dumpBackUptoCard

/-- THE SECOND FORM's CARD OF 'factotumlaw30.DumpWrites'. -/
def dumpWritesUptoCard : Claim7 := { stood := { row := dumpWritesUptoRow, standIns := [], harness := (true, "d938c0c5e20da47b29b094c88a16ccd28edc1c637e10745d0d47edca7917f416"), looks := true }, kinds := [], alts := [], laidByText := true, laidKinds := [.data, .pinned], laidTests := true, laidLooks := .later }
def DumpWritesUptoCardSaid : Prop := Claim7.holds Tryz.pinned (.plain (OpenSpec.upto dumpWritesSpec)) dumpWritesUptoCard
end Rows
end Go.Proofs.YtbhdhhgpfanmcaaGreatDoor
