/-
  DERIVED. GIVEN WITH THE SEED: THE CARDS: each row of YtnngjdfadfblmaaGreatDoorRows.lean that lists a variable, with what it lists TIED to the program's text (the seventh form; the later family's looks); each row that meets fmt, with fmt's text TOLD by the authors' own Lean function (tested against real Go, not proved from fmt's source: count such statements apart). THE CARD IS WHAT COUNTS. Prove the row's statement (the work); the ties are given (YtnngjdfadfblmaaGreatDoorTie.lean); close each card by the builder's one call (the guide's Derived/Test/ToyasCard.lean, 'card_holds'). Laid BY PROGRAM, IN A SANDBOX (cutbox-door.mjs). By AI agents, Wed Nov 11 2026. No macro, syntax, notation, axiom, sorry.
-/
import Derived.Test.YtnngjdfadfblmaaGreatDoorRows
import GoSem.ClaimSeven
namespace Go.Proofs.YtnngjdfadfblmaaGreatDoor
namespace Rows

/-- THE TIED CARD OF 'factotumlaw10.TreeDeep'. -/
def treeDeepCard : Claim7 := { stood := { row := treeDeepRow, standIns := [], harness := (true, "6343cdf12e7a917dfc79382c8d93e06ca903b4617bfaad1908a34fc47ae8729e"), looks := true }, kinds := [], alts := [], laidByText := true, laidKinds := [.data, .pinned], laidTests := true, laidLooks := .later }
def TreeDeepCardSaid : Prop := Claim7.holds Tryz.pinned (.plain (OpenSpec.ofChange treeDeepSpec)) treeDeepCard

/-- THE TIED CARD OF 'factotumlaw10.TreeSound'. -/
def treeSoundCard : Claim7 := { stood := { row := treeSoundRow, standIns := [], harness := (true, "6343cdf12e7a917dfc79382c8d93e06ca903b4617bfaad1908a34fc47ae8729e"), looks := true }, kinds := [], alts := [], laidByText := true, laidKinds := [.data, .pinned], laidTests := true, laidLooks := .later }
def TreeSoundCardSaid : Prop := Claim7.holds Tryz.pinned (.plain (OpenSpec.ofChange treeSoundSpec)) treeSoundCard

/-- THE TIED CARD OF 'factotumlaw10.TreePlays'. -/
def treePlaysCard : Claim7 := { stood := { row := treePlaysRow, standIns := [], harness := (true, "6343cdf12e7a917dfc79382c8d93e06ca903b4617bfaad1908a34fc47ae8729e"), looks := true }, kinds := [], alts := [], laidByText := true, laidKinds := [.data, .pinned], laidTests := true, laidLooks := .later }
def TreePlaysCardSaid : Prop := Claim7.holds Tryz.pinned (.plain (OpenSpec.ofChange treePlaysSpec)) treePlaysCard

/-- THE TIED CARD OF 'factotumlaw10.TreeScans'. -/
def treeScansCard : Claim7 := { stood := { row := treeScansRow, standIns := [], harness := (true, "6343cdf12e7a917dfc79382c8d93e06ca903b4617bfaad1908a34fc47ae8729e"), looks := true }, kinds := [], alts := [], laidByText := true, laidKinds := [.data, .pinned], laidTests := true, laidLooks := .later }
def TreeScansCardSaid : Prop := Claim7.holds Tryz.pinned (.plain (OpenSpec.ofChange treeScansSpec)) treeScansCard

/-- THE TIED CARD OF 'factotumlaw10.TreeTwo'. -/
def treeTwoCard : Claim7 := { stood := { row := treeTwoRow, standIns := [], harness := (true, "6343cdf12e7a917dfc79382c8d93e06ca903b4617bfaad1908a34fc47ae8729e"), looks := true }, kinds := [], alts := [], laidByText := true, laidKinds := [.data, .pinned], laidTests := true, laidLooks := .later }
def TreeTwoCardSaid : Prop := Claim7.holds Tryz.pinned (.plain (OpenSpec.ofChange treeTwoSpec)) treeTwoCard

/-- THE TIED CARD OF 'factotumlaw10.TreeDrops'. -/
def treeDropsCard : Claim7 := { stood := { row := treeDropsRow, standIns := [], harness := (true, "6343cdf12e7a917dfc79382c8d93e06ca903b4617bfaad1908a34fc47ae8729e"), looks := true }, kinds := [], alts := [], laidByText := true, laidKinds := [.data, .pinned], laidTests := true, laidLooks := .later }
def TreeDropsCardSaid : Prop := Claim7.holds Tryz.pinned (.plain (OpenSpec.ofChange treeDropsSpec)) treeDropsCard

/-- THE TIED CARD OF 'factotumlaw10.TreeOdd'. -/
def treeOddCard : Claim7 := { stood := { row := treeOddRow, standIns := [], harness := (true, "6343cdf12e7a917dfc79382c8d93e06ca903b4617bfaad1908a34fc47ae8729e"), looks := true }, kinds := [], alts := [], laidByText := true, laidKinds := [.data, .pinned], laidTests := true, laidLooks := .later }
def TreeOddCardSaid : Prop := Claim7.holds Tryz.pinned (.plain (OpenSpec.ofChange treeOddSpec)) treeOddCard

/-- THE TIED CARD OF 'factotumlaw30.DumpNil'. -/
def dumpNilCard : Claim7 := { stood := { row := dumpNilRow, standIns := [], harness := (true, "6343cdf12e7a917dfc79382c8d93e06ca903b4617bfaad1908a34fc47ae8729e"), looks := true }, kinds := [], alts := [], laidByText := true, laidKinds := [.data, .pinned], laidTests := true, laidLooks := .later }
def DumpNilCardSaid : Prop := Claim7.holds Tryz.pinned (.plain (OpenSpec.ofChange dumpNilSpec)) dumpNilCard

/-- THE SECOND FORM's CARD OF 'factotumlaw10.TreeDeep'. -/
def treeDeepUptoCard : Claim7 := { stood := { row := treeDeepUptoRow, standIns := [], harness := (true, "6343cdf12e7a917dfc79382c8d93e06ca903b4617bfaad1908a34fc47ae8729e"), looks := true }, kinds := [], alts := [], laidByText := true, laidKinds := [.data, .pinned], laidTests := true, laidLooks := .later }
def TreeDeepUptoCardSaid : Prop := Claim7.holds Tryz.pinned (.plain (OpenSpec.upto treeDeepSpec)) treeDeepUptoCard

/-- THE SECOND FORM's CARD OF 'factotumlaw10.TreeSound'. -/
def treeSoundUptoCard : Claim7 := { stood := { row := treeSoundUptoRow, standIns := [], harness := (true, "6343cdf12e7a917dfc79382c8d93e06ca903b4617bfaad1908a34fc47ae8729e"), looks := true }, kinds := [], alts := [], laidByText := true, laidKinds := [.data, .pinned], laidTests := true, laidLooks := .later }
def TreeSoundUptoCardSaid : Prop := Claim7.holds Tryz.pinned (.plain (OpenSpec.upto treeSoundSpec)) treeSoundUptoCard

/-- THE SECOND FORM's CARD OF 'factotumlaw10.TreePlays'. -/
def treePlaysUptoCard : Claim7 := { stood := { row := treePlaysUptoRow, standIns := [], harness := (true, "6343cdf12e7a917dfc79382c8d93e06ca903b4617bfaad1908a34fc47ae8729e"), looks := true }, kinds := [], alts := [], laidByText := true, laidKinds := [.data, .pinned], laidTests := true, laidLooks := .later }
def TreePlaysUptoCardSaid : Prop := Claim7.holds Tryz.pinned (.plain (OpenSpec.upto treePlaysSpec)) treePlaysUptoCard

/-- THE SECOND FORM's CARD OF 'factotumlaw10.TreeScans'. -/
def treeScansUptoCard : Claim7 := { stood := { row := treeScansUptoRow, standIns := [], harness := (true, "6343cdf12e7a917dfc79382c8d93e06ca903b4617bfaad1908a34fc47ae8729e"), looks := true }, kinds := [], alts := [], laidByText := true, laidKinds := [.data, .pinned], laidTests := true, laidLooks := .later }
def TreeScansUptoCardSaid : Prop := Claim7.holds Tryz.pinned (.plain (OpenSpec.upto treeScansSpec)) treeScansUptoCard

/-- THE SECOND FORM's CARD OF 'factotumlaw10.TreeTwo'. -/
def treeTwoUptoCard : Claim7 := { stood := { row := treeTwoUptoRow, standIns := [], harness := (true, "6343cdf12e7a917dfc79382c8d93e06ca903b4617bfaad1908a34fc47ae8729e"), looks := true }, kinds := [], alts := [], laidByText := true, laidKinds := [.data, .pinned], laidTests := true, laidLooks := .later }
def TreeTwoUptoCardSaid : Prop := Claim7.holds Tryz.pinned (.plain (OpenSpec.upto treeTwoSpec)) treeTwoUptoCard

/-- THE SECOND FORM's CARD OF 'factotumlaw10.TreeDrops'. -/
def treeDropsUptoCard : Claim7 := { stood := { row := treeDropsUptoRow, standIns := [], harness := (true, "6343cdf12e7a917dfc79382c8d93e06ca903b4617bfaad1908a34fc47ae8729e"), looks := true }, kinds := [], alts := [], laidByText := true, laidKinds := [.data, .pinned], laidTests := true, laidLooks := .later }
def TreeDropsUptoCardSaid : Prop := Claim7.holds Tryz.pinned (.plain (OpenSpec.upto treeDropsSpec)) treeDropsUptoCard

/-- THE SECOND FORM's CARD OF 'factotumlaw10.TreeOdd'. -/
def treeOddUptoCard : Claim7 := { stood := { row := treeOddUptoRow, standIns := [], harness := (true, "6343cdf12e7a917dfc79382c8d93e06ca903b4617bfaad1908a34fc47ae8729e"), looks := true }, kinds := [], alts := [], laidByText := true, laidKinds := [.data, .pinned], laidTests := true, laidLooks := .later }
def TreeOddUptoCardSaid : Prop := Claim7.holds Tryz.pinned (.plain (OpenSpec.upto treeOddSpec)) treeOddUptoCard

/-- THE SECOND FORM's CARD OF 'factotumlaw30.DumpNil'. -/
def dumpNilUptoCard : Claim7 := { stood := { row := dumpNilUptoRow, standIns := [], harness := (true, "6343cdf12e7a917dfc79382c8d93e06ca903b4617bfaad1908a34fc47ae8729e"), looks := true }, kinds := [], alts := [], laidByText := true, laidKinds := [.data, .pinned], laidTests := true, laidLooks := .later }
def DumpNilUptoCardSaid : Prop := Claim7.holds Tryz.pinned (.plain (OpenSpec.upto dumpNilSpec)) dumpNilUptoCard
end Rows
end Go.Proofs.YtnngjdfadfblmaaGreatDoor
