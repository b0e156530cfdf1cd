/-
  NARROWER THAN 'FOR EVERY INPUT', by the rows' own cells (each row's printed sentence says how): TreeDeep: laid · TreeSound: laid · TreePlays: laid · TreeScans: laid · TreeTwo: laid · TreeDrops: laid · TreeOdd: laid · DumpNil: laid.
  DERIVED. THE GIVEN ROWS OF THIS SEAT. 8 by the template 'for every input the law returns true; each argument reads behind the call as it read before'; 0 by the template 'total and deterministic' (their statements: YtnngjdfadfblmaaGreatDoorTotals.lean).
  GIVEN WITH THE SEED: the statements are not yours to turn. If you find one false, say at which input.
  Laid BY PROGRAM, IN A SANDBOX (cutbox-rows.mjs): the forced cells as the released guide's own fill.sh prints them over the translation 51e5ae46a40d8290… (all of the seat's roots in one cut). By AI agents, Wed Nov 11 2026. No macro, syntax, notation, axiom, sorry.
-/
import Derived.Test.YtnngjdfadfblmaaGreatDoorChecked
import GoSem.PinnedTables
import GoSem.Claim
import GoSem.ClaimJoined
import GoSem.ClaimMapViews
import Derived.JoinedTies
import Derived.KernelRfl
namespace Go.Proofs.YtnngjdfadfblmaaGreatDoor
/- THE CELL 'sum', in the pinned program and in every row, IS THE sha256 OF THE DUMP (.gsa) THAT YtnngjdfadfblmaaGreatDoorProg.lean LOADS. Nothing in Lean hashes anything: it is a label: what it is worth is what the hold of that sum in a sandbox is worth. -/
noncomputable def Tryz.pinned : Pinned := { name := "ytnngjdfadfblmaagreatdoor", sum := "51e5ae46a40d8290910f8c57c112946975fd0f440b0d7b8614c17abb89863c9f", checked := Tryz.checked }
namespace Rows
def none {H : Type} : Left H := { results := [], args := [] }

/- WHAT THE LISTED PACKAGE-LEVEL VARIABLES READ AS WHEN THE CALL BEGINS. Each datum BY PROGRAM (the guide's laid-datum.mjs) off the statement by which the dump's own 'gosem.cut.vars' lays the variable. In a bare row this is a premise. The card (YtnngjdfadfblmaaGreatDoorCards.lean) ties it to the program's text. -/
def laid_unicode_utf8_acceptRanges {H : Type} : DataW H := .agg [.agg [.lit (.int .u8 128), .lit (.int .u8 191)], .agg [.lit (.int .u8 160), .lit (.int .u8 191)], .agg [.lit (.int .u8 128), .lit (.int .u8 159)], .agg [.lit (.int .u8 144), .lit (.int .u8 191)], .agg [.lit (.int .u8 128), .lit (.int .u8 143)], .agg [.lit (.int .u8 0), .lit (.int .u8 0)], .agg [.lit (.int .u8 0), .lit (.int .u8 0)], .agg [.lit (.int .u8 0), .lit (.int .u8 0)], .agg [.lit (.int .u8 0), .lit (.int .u8 0)], .agg [.lit (.int .u8 0), .lit (.int .u8 0)], .agg [.lit (.int .u8 0), .lit (.int .u8 0)], .agg [.lit (.int .u8 0), .lit (.int .u8 0)], .agg [.lit (.int .u8 0), .lit (.int .u8 0)], .agg [.lit (.int .u8 0), .lit (.int .u8 0)], .agg [.lit (.int .u8 0), .lit (.int .u8 0)], .agg [.lit (.int .u8 0), .lit (.int .u8 0)]]
/-- One of Go's own tables, pinned by name: the form's constant. -/
def laid_unicode_utf8_first : DataW Unit := Go.Pinned.utf8First

/-- 'factotumlaw10.TreeDeep': WHATEVER THE INPUT: true; the input reads as it did. -/
def treeDeepSpec : ChangeSpec := { name := "treeDeep", fn := fun _ => fun
  | [d1, d2] => { results := [.lit (.bool true)], args := [d1, d2] }
  | _ => none }
def treeDeepRow : OpenClaim := { program := "ytnngjdfadfblmaagreatdoor", sum := "51e5ae46a40d8290910f8c57c112946975fd0f440b0d7b8614c17abb89863c9f", func := "factotum/factotumlaw10.TreeDeep", spec := "treeDeep", inPlace := ["internal/abi.NoEscape", "internal/bytealg.MakeNoZero", "internal/bytealg.IndexByteString", "internal/bytealg.IndexString", "slices.overlaps[factotum/api.Pair]", "maps.clone"], unfollowed := true, recurses := true, named := ["unicode/utf8.first", "unicode/utf8.acceptRanges", "internal/bytealg.MaxLen"], apart := false, laid := [("unicode/utf8.acceptRanges", laid_unicode_utf8_acceptRanges), ("unicode/utf8.first", laid_unicode_utf8_first)] }
def TreeDeepSaid : Prop := treeDeepRow.holds Tryz.pinned (OpenSpec.ofChange treeDeepSpec)

/-- ITS FALSE NEIGHBOUR: 'it returns false'. Refute it at one input. -/
def treeDeepWrong : ChangeSpec := { name := "treeDeep", fn := fun _ => fun
  | [d1, d2] => { results := [.lit (.bool false)], args := [d1, d2] }
  | _ => none }
def TreeDeepWrongFalsely : Prop := treeDeepRow.holds Tryz.pinned (OpenSpec.ofChange treeDeepWrong)

/-- 'factotumlaw10.TreeSound': WHATEVER THE INPUT: true; the input reads as it did. -/
def treeSoundSpec : ChangeSpec := { name := "treeSound", fn := fun _ => fun
  | [d1, d2] => { results := [.lit (.bool true)], args := [d1, d2] }
  | _ => none }
def treeSoundRow : OpenClaim := { program := "ytnngjdfadfblmaagreatdoor", sum := "51e5ae46a40d8290910f8c57c112946975fd0f440b0d7b8614c17abb89863c9f", func := "factotum/factotumlaw10.TreeSound", spec := "treeSound", inPlace := ["internal/abi.NoEscape", "internal/bytealg.MakeNoZero", "internal/bytealg.IndexByteString", "internal/bytealg.IndexString", "slices.overlaps[factotum/api.Pair]", "maps.clone"], unfollowed := true, recurses := true, named := ["unicode/utf8.first", "unicode/utf8.acceptRanges", "internal/bytealg.MaxLen"], apart := false, laid := [("unicode/utf8.acceptRanges", laid_unicode_utf8_acceptRanges), ("unicode/utf8.first", laid_unicode_utf8_first)] }
def TreeSoundSaid : Prop := treeSoundRow.holds Tryz.pinned (OpenSpec.ofChange treeSoundSpec)

/-- ITS FALSE NEIGHBOUR: 'it returns false'. Refute it at one input. -/
def treeSoundWrong : ChangeSpec := { name := "treeSound", fn := fun _ => fun
  | [d1, d2] => { results := [.lit (.bool false)], args := [d1, d2] }
  | _ => none }
def TreeSoundWrongFalsely : Prop := treeSoundRow.holds Tryz.pinned (OpenSpec.ofChange treeSoundWrong)

/-- 'factotumlaw10.TreePlays': WHATEVER THE INPUT: true; the input reads as it did. -/
def treePlaysSpec : ChangeSpec := { name := "treePlays", fn := fun _ => fun
  | [d1, d2, d3] => { results := [.lit (.bool true)], args := [d1, d2, d3] }
  | _ => none }
def treePlaysRow : OpenClaim := { program := "ytnngjdfadfblmaagreatdoor", sum := "51e5ae46a40d8290910f8c57c112946975fd0f440b0d7b8614c17abb89863c9f", func := "factotum/factotumlaw10.TreePlays", spec := "treePlays", inPlace := ["internal/abi.NoEscape", "internal/bytealg.MakeNoZero", "internal/bytealg.IndexByteString", "internal/bytealg.IndexString", "slices.overlaps[factotum/api.Pair]", "maps.clone"], unfollowed := true, recurses := true, named := ["unicode/utf8.first", "unicode/utf8.acceptRanges", "internal/bytealg.MaxLen"], apart := false, laid := [("unicode/utf8.acceptRanges", laid_unicode_utf8_acceptRanges), ("unicode/utf8.first", laid_unicode_utf8_first)] }
def TreePlaysSaid : Prop := treePlaysRow.holds Tryz.pinned (OpenSpec.ofChange treePlaysSpec)

/-- ITS FALSE NEIGHBOUR: 'it returns false'. Refute it at one input. -/
def treePlaysWrong : ChangeSpec := { name := "treePlays", fn := fun _ => fun
  | [d1, d2, d3] => { results := [.lit (.bool false)], args := [d1, d2, d3] }
  | _ => none }
def TreePlaysWrongFalsely : Prop := treePlaysRow.holds Tryz.pinned (OpenSpec.ofChange treePlaysWrong)

/-- 'factotumlaw10.TreeScans': WHATEVER THE INPUT: true; the input reads as it did. -/
def treeScansSpec : ChangeSpec := { name := "treeScans", fn := fun _ => fun
  | [d1, d2, d3] => { results := [.lit (.bool true)], args := [d1, d2, d3] }
  | _ => none }
def treeScansRow : OpenClaim := { program := "ytnngjdfadfblmaagreatdoor", sum := "51e5ae46a40d8290910f8c57c112946975fd0f440b0d7b8614c17abb89863c9f", func := "factotum/factotumlaw10.TreeScans", spec := "treeScans", inPlace := ["internal/abi.NoEscape", "internal/bytealg.MakeNoZero", "internal/bytealg.IndexByteString", "internal/bytealg.IndexString", "slices.overlaps[factotum/api.Pair]", "maps.clone"], unfollowed := true, recurses := true, named := ["unicode/utf8.first", "unicode/utf8.acceptRanges", "internal/bytealg.MaxLen"], apart := false, laid := [("unicode/utf8.acceptRanges", laid_unicode_utf8_acceptRanges), ("unicode/utf8.first", laid_unicode_utf8_first)] }
def TreeScansSaid : Prop := treeScansRow.holds Tryz.pinned (OpenSpec.ofChange treeScansSpec)

/-- ITS FALSE NEIGHBOUR: 'it returns false'. Refute it at one input. -/
def treeScansWrong : ChangeSpec := { name := "treeScans", fn := fun _ => fun
  | [d1, d2, d3] => { results := [.lit (.bool false)], args := [d1, d2, d3] }
  | _ => none }
def TreeScansWrongFalsely : Prop := treeScansRow.holds Tryz.pinned (OpenSpec.ofChange treeScansWrong)

/-- 'factotumlaw10.TreeTwo': WHATEVER THE INPUT: true; the input reads as it did. -/
def treeTwoSpec : ChangeSpec := { name := "treeTwo", fn := fun _ => fun
  | [d1, d2, d3] => { results := [.lit (.bool true)], args := [d1, d2, d3] }
  | _ => none }
def treeTwoRow : OpenClaim := { program := "ytnngjdfadfblmaagreatdoor", sum := "51e5ae46a40d8290910f8c57c112946975fd0f440b0d7b8614c17abb89863c9f", func := "factotum/factotumlaw10.TreeTwo", spec := "treeTwo", inPlace := ["internal/abi.NoEscape", "internal/bytealg.MakeNoZero", "internal/bytealg.IndexByteString", "internal/bytealg.IndexString", "slices.overlaps[factotum/api.Pair]", "maps.clone"], unfollowed := true, recurses := true, named := ["unicode/utf8.first", "unicode/utf8.acceptRanges", "internal/bytealg.MaxLen"], apart := false, laid := [("unicode/utf8.acceptRanges", laid_unicode_utf8_acceptRanges), ("unicode/utf8.first", laid_unicode_utf8_first)] }
def TreeTwoSaid : Prop := treeTwoRow.holds Tryz.pinned (OpenSpec.ofChange treeTwoSpec)

/-- ITS FALSE NEIGHBOUR: 'it returns false'. Refute it at one input. -/
def treeTwoWrong : ChangeSpec := { name := "treeTwo", fn := fun _ => fun
  | [d1, d2, d3] => { results := [.lit (.bool false)], args := [d1, d2, d3] }
  | _ => none }
def TreeTwoWrongFalsely : Prop := treeTwoRow.holds Tryz.pinned (OpenSpec.ofChange treeTwoWrong)

/-- 'factotumlaw10.TreeDrops': WHATEVER THE INPUT: true; the input reads as it did. -/
def treeDropsSpec : ChangeSpec := { name := "treeDrops", fn := fun _ => fun
  | [d1, d2, d3] => { results := [.lit (.bool true)], args := [d1, d2, d3] }
  | _ => none }
def treeDropsRow : OpenClaim := { program := "ytnngjdfadfblmaagreatdoor", sum := "51e5ae46a40d8290910f8c57c112946975fd0f440b0d7b8614c17abb89863c9f", func := "factotum/factotumlaw10.TreeDrops", spec := "treeDrops", inPlace := ["internal/abi.NoEscape", "internal/bytealg.MakeNoZero", "internal/bytealg.IndexByteString", "internal/bytealg.IndexString", "slices.overlaps[factotum/api.Pair]", "maps.clone"], unfollowed := true, recurses := true, named := ["unicode/utf8.first", "unicode/utf8.acceptRanges", "internal/bytealg.MaxLen"], apart := false, laid := [("unicode/utf8.acceptRanges", laid_unicode_utf8_acceptRanges), ("unicode/utf8.first", laid_unicode_utf8_first)] }
def TreeDropsSaid : Prop := treeDropsRow.holds Tryz.pinned (OpenSpec.ofChange treeDropsSpec)

/-- ITS FALSE NEIGHBOUR: 'it returns false'. Refute it at one input. -/
def treeDropsWrong : ChangeSpec := { name := "treeDrops", fn := fun _ => fun
  | [d1, d2, d3] => { results := [.lit (.bool false)], args := [d1, d2, d3] }
  | _ => none }
def TreeDropsWrongFalsely : Prop := treeDropsRow.holds Tryz.pinned (OpenSpec.ofChange treeDropsWrong)

/-- 'factotumlaw10.TreeOdd': WHATEVER THE INPUT: true; the input reads as it did. -/
def treeOddSpec : ChangeSpec := { name := "treeOdd", fn := fun _ => fun
  | [d1, d2, d3] => { results := [.lit (.bool true)], args := [d1, d2, d3] }
  | _ => none }
def treeOddRow : OpenClaim := { program := "ytnngjdfadfblmaagreatdoor", sum := "51e5ae46a40d8290910f8c57c112946975fd0f440b0d7b8614c17abb89863c9f", func := "factotum/factotumlaw10.TreeOdd", spec := "treeOdd", inPlace := ["internal/abi.NoEscape", "internal/bytealg.MakeNoZero", "internal/bytealg.IndexByteString", "internal/bytealg.IndexString", "slices.overlaps[factotum/api.Pair]", "maps.clone"], unfollowed := true, recurses := true, named := ["unicode/utf8.first", "unicode/utf8.acceptRanges", "internal/bytealg.MaxLen"], apart := false, laid := [("unicode/utf8.acceptRanges", laid_unicode_utf8_acceptRanges), ("unicode/utf8.first", laid_unicode_utf8_first)] }
def TreeOddSaid : Prop := treeOddRow.holds Tryz.pinned (OpenSpec.ofChange treeOddSpec)

/-- ITS FALSE NEIGHBOUR: 'it returns false'. Refute it at one input. -/
def treeOddWrong : ChangeSpec := { name := "treeOdd", fn := fun _ => fun
  | [d1, d2, d3] => { results := [.lit (.bool false)], args := [d1, d2, d3] }
  | _ => none }
def TreeOddWrongFalsely : Prop := treeOddRow.holds Tryz.pinned (OpenSpec.ofChange treeOddWrong)

/-- 'factotumlaw30.DumpNil': WHATEVER THE INPUT: true; the input reads as it did. -/
def dumpNilSpec : ChangeSpec := { name := "dumpNil", fn := fun _ => fun
  | [d] => { results := [.lit (.bool true)], args := [d] }
  | _ => none }
def dumpNilRow : OpenClaim := { program := "ytnngjdfadfblmaagreatdoor", sum := "51e5ae46a40d8290910f8c57c112946975fd0f440b0d7b8614c17abb89863c9f", func := "factotum/factotumlaw30.DumpNil", spec := "dumpNil", inPlace := ["internal/abi.NoEscape", "internal/bytealg.MakeNoZero", "internal/bytealg.IndexByteString", "internal/bytealg.IndexString", "slices.overlaps[factotum/api.Pair]", "maps.clone"], unfollowed := true, recurses := true, named := ["unicode/utf8.first", "unicode/utf8.acceptRanges", "internal/bytealg.MaxLen"], apart := false, laid := [("unicode/utf8.acceptRanges", laid_unicode_utf8_acceptRanges), ("unicode/utf8.first", laid_unicode_utf8_first)] }
def DumpNilSaid : Prop := dumpNilRow.holds Tryz.pinned (OpenSpec.ofChange dumpNilSpec)

/-- ITS FALSE NEIGHBOUR: 'it returns false'. Refute it at one input. -/
def dumpNilWrong : ChangeSpec := { name := "dumpNil", fn := fun _ => fun
  | [d] => { results := [.lit (.bool false)], args := [d] }
  | _ => none }
def DumpNilWrongFalsely : Prop := dumpNilRow.holds Tryz.pinned (OpenSpec.ofChange dumpNilWrong)

/- THE SECOND FORM. 'bulk': how many values and letters a reading holds, each counted each time it is reached (what is shared counts as often as it is met; a slice's spare places count too). A statement '..UptoSaid' is the law's where the arguments, and the package variables that the reading takes, are together of bulk at most 1048576: NARROWER than '..Said'. Prove '..Said' where nothing that the law and all that it calls make is longer than what came in: it says more and counts as full. Else prove '..UptoSaid'. A law counts once. -/
mutual
def uptoBulk {H : Type} : DataW H → Nat
  | .lit (.string bytes) => bytes.length + 1
  | .lit _ => 1
  | .nil => 1
  | .ptr d => uptoBulk d + 1
  | .slice elems spare => uptoBulkAll elems + uptoBulkAll spare + 1
  | .agg parts => uptoBulkAll parts + 1
  | .iface _ d => uptoBulk d + 1
  | .map entries => uptoBulkEntries entries + 1
  | .held _ => 1
def uptoBulkAll {H : Type} : List (DataW H) → Nat
  | [] => 0
  | d :: r => uptoBulk d + uptoBulkAll r
def uptoBulkEntries {H : Type} : List (Lit × DataW H) → Nat
  | [] => 0
  | x :: r => uptoBulkEntry x + uptoBulkEntries r
def uptoBulkEntry {H : Type} : Lit × DataW H → Nat
  | (.string bytes, d) => bytes.length + uptoBulk d + 1
  | (_, d) => uptoBulk d + 1
 end
def uptoSmall : (H : Type) → List (DataW H) → Bool := fun _ ds => decide (uptoBulkAll ds ≤ 1048576)
def OpenSpec.upto (s : _root_.Go.ChangeSpec) : _root_.Go.OpenSpec := { _root_.Go.OpenSpec.ofChange s with cond := some uptoSmall }

/-- 'factotumlaw10.TreeDeep', WHERE WHAT IT READS IS OF BULK AT MOST 1048576: true; the input reads as it did. -/
def treeDeepUptoRow : OpenClaim := { program := "ytnngjdfadfblmaagreatdoor", sum := "51e5ae46a40d8290910f8c57c112946975fd0f440b0d7b8614c17abb89863c9f", func := "factotum/factotumlaw10.TreeDeep", spec := "treeDeep", inPlace := ["internal/abi.NoEscape", "internal/bytealg.MakeNoZero", "internal/bytealg.IndexByteString", "internal/bytealg.IndexString", "slices.overlaps[factotum/api.Pair]", "maps.clone"], unfollowed := true, recurses := true, named := ["unicode/utf8.first", "unicode/utf8.acceptRanges", "internal/bytealg.MaxLen"], apart := false, laid := [("unicode/utf8.acceptRanges", laid_unicode_utf8_acceptRanges), ("unicode/utf8.first", laid_unicode_utf8_first)], narrowed := true }
def TreeDeepUptoSaid : Prop := treeDeepUptoRow.holds Tryz.pinned (OpenSpec.upto treeDeepSpec)

/-- 'factotumlaw10.TreeSound', WHERE WHAT IT READS IS OF BULK AT MOST 1048576: true; the input reads as it did. -/
def treeSoundUptoRow : OpenClaim := { program := "ytnngjdfadfblmaagreatdoor", sum := "51e5ae46a40d8290910f8c57c112946975fd0f440b0d7b8614c17abb89863c9f", func := "factotum/factotumlaw10.TreeSound", spec := "treeSound", inPlace := ["internal/abi.NoEscape", "internal/bytealg.MakeNoZero", "internal/bytealg.IndexByteString", "internal/bytealg.IndexString", "slices.overlaps[factotum/api.Pair]", "maps.clone"], unfollowed := true, recurses := true, named := ["unicode/utf8.first", "unicode/utf8.acceptRanges", "internal/bytealg.MaxLen"], apart := false, laid := [("unicode/utf8.acceptRanges", laid_unicode_utf8_acceptRanges), ("unicode/utf8.first", laid_unicode_utf8_first)], narrowed := true }
def TreeSoundUptoSaid : Prop := treeSoundUptoRow.holds Tryz.pinned (OpenSpec.upto treeSoundSpec)

/-- 'factotumlaw10.TreePlays', WHERE WHAT IT READS IS OF BULK AT MOST 1048576: true; the input reads as it did. -/
def treePlaysUptoRow : OpenClaim := { program := "ytnngjdfadfblmaagreatdoor", sum := "51e5ae46a40d8290910f8c57c112946975fd0f440b0d7b8614c17abb89863c9f", func := "factotum/factotumlaw10.TreePlays", spec := "treePlays", inPlace := ["internal/abi.NoEscape", "internal/bytealg.MakeNoZero", "internal/bytealg.IndexByteString", "internal/bytealg.IndexString", "slices.overlaps[factotum/api.Pair]", "maps.clone"], unfollowed := true, recurses := true, named := ["unicode/utf8.first", "unicode/utf8.acceptRanges", "internal/bytealg.MaxLen"], apart := false, laid := [("unicode/utf8.acceptRanges", laid_unicode_utf8_acceptRanges), ("unicode/utf8.first", laid_unicode_utf8_first)], narrowed := true }
def TreePlaysUptoSaid : Prop := treePlaysUptoRow.holds Tryz.pinned (OpenSpec.upto treePlaysSpec)

/-- 'factotumlaw10.TreeScans', WHERE WHAT IT READS IS OF BULK AT MOST 1048576: true; the input reads as it did. -/
def treeScansUptoRow : OpenClaim := { program := "ytnngjdfadfblmaagreatdoor", sum := "51e5ae46a40d8290910f8c57c112946975fd0f440b0d7b8614c17abb89863c9f", func := "factotum/factotumlaw10.TreeScans", spec := "treeScans", inPlace := ["internal/abi.NoEscape", "internal/bytealg.MakeNoZero", "internal/bytealg.IndexByteString", "internal/bytealg.IndexString", "slices.overlaps[factotum/api.Pair]", "maps.clone"], unfollowed := true, recurses := true, named := ["unicode/utf8.first", "unicode/utf8.acceptRanges", "internal/bytealg.MaxLen"], apart := false, laid := [("unicode/utf8.acceptRanges", laid_unicode_utf8_acceptRanges), ("unicode/utf8.first", laid_unicode_utf8_first)], narrowed := true }
def TreeScansUptoSaid : Prop := treeScansUptoRow.holds Tryz.pinned (OpenSpec.upto treeScansSpec)

/-- 'factotumlaw10.TreeTwo', WHERE WHAT IT READS IS OF BULK AT MOST 1048576: true; the input reads as it did. -/
def treeTwoUptoRow : OpenClaim := { program := "ytnngjdfadfblmaagreatdoor", sum := "51e5ae46a40d8290910f8c57c112946975fd0f440b0d7b8614c17abb89863c9f", func := "factotum/factotumlaw10.TreeTwo", spec := "treeTwo", inPlace := ["internal/abi.NoEscape", "internal/bytealg.MakeNoZero", "internal/bytealg.IndexByteString", "internal/bytealg.IndexString", "slices.overlaps[factotum/api.Pair]", "maps.clone"], unfollowed := true, recurses := true, named := ["unicode/utf8.first", "unicode/utf8.acceptRanges", "internal/bytealg.MaxLen"], apart := false, laid := [("unicode/utf8.acceptRanges", laid_unicode_utf8_acceptRanges), ("unicode/utf8.first", laid_unicode_utf8_first)], narrowed := true }
def TreeTwoUptoSaid : Prop := treeTwoUptoRow.holds Tryz.pinned (OpenSpec.upto treeTwoSpec)

/-- 'factotumlaw10.TreeDrops', WHERE WHAT IT READS IS OF BULK AT MOST 1048576: true; the input reads as it did. -/
def treeDropsUptoRow : OpenClaim := { program := "ytnngjdfadfblmaagreatdoor", sum := "51e5ae46a40d8290910f8c57c112946975fd0f440b0d7b8614c17abb89863c9f", func := "factotum/factotumlaw10.TreeDrops", spec := "treeDrops", inPlace := ["internal/abi.NoEscape", "internal/bytealg.MakeNoZero", "internal/bytealg.IndexByteString", "internal/bytealg.IndexString", "slices.overlaps[factotum/api.Pair]", "maps.clone"], unfollowed := true, recurses := true, named := ["unicode/utf8.first", "unicode/utf8.acceptRanges", "internal/bytealg.MaxLen"], apart := false, laid := [("unicode/utf8.acceptRanges", laid_unicode_utf8_acceptRanges), ("unicode/utf8.first", laid_unicode_utf8_first)], narrowed := true }
def TreeDropsUptoSaid : Prop := treeDropsUptoRow.holds Tryz.pinned (OpenSpec.upto treeDropsSpec)

/-- 'factotumlaw10.TreeOdd', WHERE WHAT IT READS IS OF BULK AT MOST 1048576: true; the input reads as it did. -/
def treeOddUptoRow : OpenClaim := { program := "ytnngjdfadfblmaagreatdoor", sum := "51e5ae46a40d8290910f8c57c112946975fd0f440b0d7b8614c17abb89863c9f", func := "factotum/factotumlaw10.TreeOdd", spec := "treeOdd", inPlace := ["internal/abi.NoEscape", "internal/bytealg.MakeNoZero", "internal/bytealg.IndexByteString", "internal/bytealg.IndexString", "slices.overlaps[factotum/api.Pair]", "maps.clone"], unfollowed := true, recurses := true, named := ["unicode/utf8.first", "unicode/utf8.acceptRanges", "internal/bytealg.MaxLen"], apart := false, laid := [("unicode/utf8.acceptRanges", laid_unicode_utf8_acceptRanges), ("unicode/utf8.first", laid_unicode_utf8_first)], narrowed := true }
def TreeOddUptoSaid : Prop := treeOddUptoRow.holds Tryz.pinned (OpenSpec.upto treeOddSpec)

/-- 'factotumlaw30.DumpNil', WHERE WHAT IT READS IS OF BULK AT MOST 1048576: true; the input reads as it did. -/
def dumpNilUptoRow : OpenClaim := { program := "ytnngjdfadfblmaagreatdoor", sum := "51e5ae46a40d8290910f8c57c112946975fd0f440b0d7b8614c17abb89863c9f", func := "factotum/factotumlaw30.DumpNil", spec := "dumpNil", inPlace := ["internal/abi.NoEscape", "internal/bytealg.MakeNoZero", "internal/bytealg.IndexByteString", "internal/bytealg.IndexString", "slices.overlaps[factotum/api.Pair]", "maps.clone"], unfollowed := true, recurses := true, named := ["unicode/utf8.first", "unicode/utf8.acceptRanges", "internal/bytealg.MaxLen"], apart := false, laid := [("unicode/utf8.acceptRanges", laid_unicode_utf8_acceptRanges), ("unicode/utf8.first", laid_unicode_utf8_first)], narrowed := true }
def DumpNilUptoSaid : Prop := dumpNilUptoRow.holds Tryz.pinned (OpenSpec.upto dumpNilSpec)

end Rows
end Go.Proofs.YtnngjdfadfblmaaGreatDoor
