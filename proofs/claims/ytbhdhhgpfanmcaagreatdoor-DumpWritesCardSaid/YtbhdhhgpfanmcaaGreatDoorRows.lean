/-
  NARROWER THAN 'FOR EVERY INPUT', by the rows' own cells (each row's printed sentence says how): DumpOnly: laid · DumpReads: laid · DumpBack: laid · DumpWrites: laid.
  DERIVED. THE GIVEN ROWS OF THIS SEAT. 4 by the template 'for every input the law returns true; each argument reads behind the call as it read before'; 0 by the template 'total and deterministic' (their statements: YtbhdhhgpfanmcaaGreatDoorTotals.lean).
  GIVEN WITH THE SEED: the statements are not yours to turn. If you find one false, say at which input.
  Laid BY PROGRAM, IN A SANDBOX (cutbox-rows.mjs): the forced cells as the released guide's own fill.sh prints them over the translation 2fb116829a226d71… (all of the seat's roots in one cut). By AI agents, Wed Nov 11 2026. No macro, syntax, notation, axiom, sorry.
-/
import Derived.Test.YtbhdhhgpfanmcaaGreatDoorChecked
import GoSem.PinnedTables
import GoSem.Claim
import GoSem.ClaimJoined
import GoSem.ClaimMapViews
import Derived.JoinedTies
import Derived.KernelRfl
namespace Go.Proofs.YtbhdhhgpfanmcaaGreatDoor
/- THE CELL 'sum', in the pinned program and in every row, IS THE sha256 OF THE DUMP (.gsa) THAT YtbhdhhgpfanmcaaGreatDoorProg.lean LOADS. Nothing in Lean hashes anything: it is a label: what it is worth is what the hold of that sum in a sandbox is worth. -/
noncomputable def Tryz.pinned : Pinned := { name := "ytbhdhhgpfanmcaagreatdoor", sum := "2fb116829a226d711155fba5d93b1376a70f03cc97d5718cc3f30ac97f267729", checked := Tryz.checked }
namespace Rows
def none {H : Type} : Left H := { results := [], args := [] }

/- WHAT THE LISTED PACKAGE-LEVEL VARIABLES READ AS WHEN THE CALL BEGINS. Each datum BY PROGRAM (the guide's laid-datum.mjs) off the statement by which the dump's own 'gosem.cut.vars' lays the variable. In a bare row this is a premise. The card (YtbhdhhgpfanmcaaGreatDoorCards.lean) ties it to the program's text. -/
def laid_unicode_utf8_acceptRanges {H : Type} : DataW H := .agg [.agg [.lit (.int .u8 128), .lit (.int .u8 191)], .agg [.lit (.int .u8 160), .lit (.int .u8 191)], .agg [.lit (.int .u8 128), .lit (.int .u8 159)], .agg [.lit (.int .u8 144), .lit (.int .u8 191)], .agg [.lit (.int .u8 128), .lit (.int .u8 143)], .agg [.lit (.int .u8 0), .lit (.int .u8 0)], .agg [.lit (.int .u8 0), .lit (.int .u8 0)], .agg [.lit (.int .u8 0), .lit (.int .u8 0)], .agg [.lit (.int .u8 0), .lit (.int .u8 0)], .agg [.lit (.int .u8 0), .lit (.int .u8 0)], .agg [.lit (.int .u8 0), .lit (.int .u8 0)], .agg [.lit (.int .u8 0), .lit (.int .u8 0)], .agg [.lit (.int .u8 0), .lit (.int .u8 0)], .agg [.lit (.int .u8 0), .lit (.int .u8 0)], .agg [.lit (.int .u8 0), .lit (.int .u8 0)], .agg [.lit (.int .u8 0), .lit (.int .u8 0)]]
/-- One of Go's own tables, pinned by name: the form's constant. -/
def laid_unicode_utf8_first : DataW Unit := Go.Pinned.utf8First

/-- 'factotumlaw30.DumpOnly': WHATEVER THE INPUT: true; the input reads as it did. -/
def dumpOnlySpec : ChangeSpec := { name := "dumpOnly", fn := fun _ => fun
  | [d] => { results := [.lit (.bool true)], args := [d] }
  | _ => none }
def dumpOnlyRow : OpenClaim := { program := "ytbhdhhgpfanmcaagreatdoor", sum := "2fb116829a226d711155fba5d93b1376a70f03cc97d5718cc3f30ac97f267729", func := "factotum/factotumlaw30.DumpOnly", spec := "dumpOnly", inPlace := ["internal/abi.NoEscape", "internal/bytealg.MakeNoZero", "internal/bytealg.IndexByteString", "internal/bytealg.IndexString", "slices.overlaps[factotum/api.Pair]", "maps.clone"], unfollowed := true, recurses := true, named := ["unicode/utf8.first", "unicode/utf8.acceptRanges", "internal/bytealg.MaxLen"], apart := false, laid := [("unicode/utf8.acceptRanges", laid_unicode_utf8_acceptRanges), ("unicode/utf8.first", laid_unicode_utf8_first)] }
def DumpOnlySaid : Prop := dumpOnlyRow.holds Tryz.pinned (OpenSpec.ofChange dumpOnlySpec)

/-- ITS FALSE NEIGHBOUR: 'it returns false'. Refute it at one input. -/
def dumpOnlyWrong : ChangeSpec := { name := "dumpOnly", fn := fun _ => fun
  | [d] => { results := [.lit (.bool false)], args := [d] }
  | _ => none }
def DumpOnlyWrongFalsely : Prop := dumpOnlyRow.holds Tryz.pinned (OpenSpec.ofChange dumpOnlyWrong)

/-- 'factotumlaw30.DumpReads': WHATEVER THE INPUT: true; the input reads as it did. -/
def dumpReadsSpec : ChangeSpec := { name := "dumpReads", fn := fun _ => fun
  | [d1, d2] => { results := [.lit (.bool true)], args := [d1, d2] }
  | _ => none }
def dumpReadsRow : OpenClaim := { program := "ytbhdhhgpfanmcaagreatdoor", sum := "2fb116829a226d711155fba5d93b1376a70f03cc97d5718cc3f30ac97f267729", func := "factotum/factotumlaw30.DumpReads", spec := "dumpReads", inPlace := ["internal/abi.NoEscape", "internal/bytealg.MakeNoZero", "internal/bytealg.IndexByteString", "internal/bytealg.IndexString", "slices.overlaps[factotum/api.Pair]", "maps.clone"], unfollowed := true, recurses := true, named := ["unicode/utf8.first", "unicode/utf8.acceptRanges", "internal/bytealg.MaxLen"], apart := false, laid := [("unicode/utf8.acceptRanges", laid_unicode_utf8_acceptRanges), ("unicode/utf8.first", laid_unicode_utf8_first)] }
def DumpReadsSaid : Prop := dumpReadsRow.holds Tryz.pinned (OpenSpec.ofChange dumpReadsSpec)

/-- ITS FALSE NEIGHBOUR: 'it returns false'. Refute it at one input. -/
def dumpReadsWrong : ChangeSpec := { name := "dumpReads", fn := fun _ => fun
  | [d1, d2] => { results := [.lit (.bool false)], args := [d1, d2] }
  | _ => none }
def DumpReadsWrongFalsely : Prop := dumpReadsRow.holds Tryz.pinned (OpenSpec.ofChange dumpReadsWrong)

/-- 'factotumlaw30.DumpBack': WHATEVER THE INPUT: true; the input reads as it did. -/
def dumpBackSpec : ChangeSpec := { name := "dumpBack", fn := fun _ => fun
  | [d] => { results := [.lit (.bool true)], args := [d] }
  | _ => none }
def dumpBackRow : OpenClaim := { program := "ytbhdhhgpfanmcaagreatdoor", sum := "2fb116829a226d711155fba5d93b1376a70f03cc97d5718cc3f30ac97f267729", func := "factotum/factotumlaw30.DumpBack", spec := "dumpBack", inPlace := ["internal/abi.NoEscape", "internal/bytealg.MakeNoZero", "internal/bytealg.IndexByteString", "internal/bytealg.IndexString", "slices.overlaps[factotum/api.Pair]", "maps.clone"], unfollowed := true, recurses := true, named := ["unicode/utf8.first", "unicode/utf8.acceptRanges", "internal/bytealg.MaxLen"], apart := false, laid := [("unicode/utf8.acceptRanges", laid_unicode_utf8_acceptRanges), ("unicode/utf8.first", laid_unicode_utf8_first)] }
def DumpBackSaid : Prop := dumpBackRow.holds Tryz.pinned (OpenSpec.ofChange dumpBackSpec)

/-- ITS FALSE NEIGHBOUR: 'it returns false'. Refute it at one input. -/
def dumpBackWrong : ChangeSpec := { name := "dumpBack", fn := fun _ => fun
  | [d] => { results := [.lit (.bool false)], args := [d] }
  | _ => none }
def DumpBackWrongFalsely : Prop := dumpBackRow.holds Tryz.pinned (OpenSpec.ofChange dumpBackWrong)

/-- 'factotumlaw30.DumpWrites': WHATEVER THE INPUT: true; the input reads as it did. -/
def dumpWritesSpec : ChangeSpec := { name := "dumpWrites", fn := fun _ => fun
  | [d] => { results := [.lit (.bool true)], args := [d] }
  | _ => none }
def dumpWritesRow : OpenClaim := { program := "ytbhdhhgpfanmcaagreatdoor", sum := "2fb116829a226d711155fba5d93b1376a70f03cc97d5718cc3f30ac97f267729", func := "factotum/factotumlaw30.DumpWrites", spec := "dumpWrites", inPlace := ["internal/abi.NoEscape", "internal/bytealg.MakeNoZero", "internal/bytealg.IndexByteString", "internal/bytealg.IndexString", "slices.overlaps[factotum/api.Pair]", "maps.clone"], unfollowed := true, recurses := true, named := ["unicode/utf8.first", "unicode/utf8.acceptRanges", "internal/bytealg.MaxLen"], apart := false, laid := [("unicode/utf8.acceptRanges", laid_unicode_utf8_acceptRanges), ("unicode/utf8.first", laid_unicode_utf8_first)] }
def DumpWritesSaid : Prop := dumpWritesRow.holds Tryz.pinned (OpenSpec.ofChange dumpWritesSpec)

/-- ITS FALSE NEIGHBOUR: 'it returns false'. Refute it at one input. -/
def dumpWritesWrong : ChangeSpec := { name := "dumpWrites", fn := fun _ => fun
  | [d] => { results := [.lit (.bool false)], args := [d] }
  | _ => none }
def DumpWritesWrongFalsely : Prop := dumpWritesRow.holds Tryz.pinned (OpenSpec.ofChange dumpWritesWrong)

/- THE SECOND FORM. 'bulk': how many values and letters a reading holds, each counted each time it is reached (what is shared counts as often as it is met; a slice's spare places count too). A statement '..UptoSaid' is the law's where the arguments, and the package variables that the reading takes, are together of bulk at most 1048576: NARROWER than '..Said'. Prove '..Said' where nothing that the law and all that it calls make is longer than what came in: it says more and counts as full. Else prove '..UptoSaid'. A law counts once. -/
mutual
def uptoBulk {H : Type} : DataW H → Nat
  | .lit (.string bytes) => bytes.length + 1
  | .lit _ => 1
  | .nil => 1
  | .ptr d => uptoBulk d + 1
  | .slice elems spare => uptoBulkAll elems + uptoBulkAll spare + 1
  | .agg parts => uptoBulkAll parts + 1
  | .iface _ d => uptoBulk d + 1
  | .map entries => uptoBulkEntries entries + 1
  | .held _ => 1
def uptoBulkAll {H : Type} : List (DataW H) → Nat
  | [] => 0
  | d :: r => uptoBulk d + uptoBulkAll r
def uptoBulkEntries {H : Type} : List (Lit × DataW H) → Nat
  | [] => 0
  | x :: r => uptoBulkEntry x + uptoBulkEntries r
def uptoBulkEntry {H : Type} : Lit × DataW H → Nat
  | (.string bytes, d) => bytes.length + uptoBulk d + 1
  | (_, d) => uptoBulk d + 1
 end
def uptoSmall : (H : Type) → List (DataW H) → Bool := fun _ ds => decide (uptoBulkAll ds ≤ 1048576)
def OpenSpec.upto (s : _root_.Go.ChangeSpec) : _root_.Go.OpenSpec := { _root_.Go.OpenSpec.ofChange s with cond := some uptoSmall }

/-- 'factotumlaw30.DumpOnly', WHERE WHAT IT READS IS OF BULK AT MOST 1048576: true; the input reads as it did. -/
def dumpOnlyUptoRow : OpenClaim := { program := "ytbhdhhgpfanmcaagreatdoor", sum := "2fb116829a226d711155fba5d93b1376a70f03cc97d5718cc3f30ac97f267729", func := "factotum/factotumlaw30.DumpOnly", spec := "dumpOnly", inPlace := ["internal/abi.NoEscape", "internal/bytealg.MakeNoZero", "internal/bytealg.IndexByteString", "internal/bytealg.IndexString", "slices.overlaps[factotum/api.Pair]", "maps.clone"], unfollowed := true, recurses := true, named := ["unicode/utf8.first", "unicode/utf8.acceptRanges", "internal/bytealg.MaxLen"], apart := false, laid := [("unicode/utf8.acceptRanges", laid_unicode_utf8_acceptRanges), ("unicode/utf8.first", laid_unicode_utf8_first)], narrowed := true }
def DumpOnlyUptoSaid : Prop := dumpOnlyUptoRow.holds Tryz.pinned (OpenSpec.upto dumpOnlySpec)

/-- 'factotumlaw30.DumpReads', WHERE WHAT IT READS IS OF BULK AT MOST 1048576: true; the input reads as it did. -/
def dumpReadsUptoRow : OpenClaim := { program := "ytbhdhhgpfanmcaagreatdoor", sum := "2fb116829a226d711155fba5d93b1376a70f03cc97d5718cc3f30ac97f267729", func := "factotum/factotumlaw30.DumpReads", spec := "dumpReads", inPlace := ["internal/abi.NoEscape", "internal/bytealg.MakeNoZero", "internal/bytealg.IndexByteString", "internal/bytealg.IndexString", "slices.overlaps[factotum/api.Pair]", "maps.clone"], unfollowed := true, recurses := true, named := ["unicode/utf8.first", "unicode/utf8.acceptRanges", "internal/bytealg.MaxLen"], apart := false, laid := [("unicode/utf8.acceptRanges", laid_unicode_utf8_acceptRanges), ("unicode/utf8.first", laid_unicode_utf8_first)], narrowed := true }
def DumpReadsUptoSaid : Prop := dumpReadsUptoRow.holds Tryz.pinned (OpenSpec.upto dumpReadsSpec)

/-- 'factotumlaw30.DumpBack', WHERE WHAT IT READS IS OF BULK AT MOST 1048576: true; the input reads as it did. -/
def dumpBackUptoRow : OpenClaim := { program := "ytbhdhhgpfanmcaagreatdoor", sum := "2fb116829a226d711155fba5d93b1376a70f03cc97d5718cc3f30ac97f267729", func := "factotum/factotumlaw30.DumpBack", spec := "dumpBack", inPlace := ["internal/abi.NoEscape", "internal/bytealg.MakeNoZero", "internal/bytealg.IndexByteString", "internal/bytealg.IndexString", "slices.overlaps[factotum/api.Pair]", "maps.clone"], unfollowed := true, recurses := true, named := ["unicode/utf8.first", "unicode/utf8.acceptRanges", "internal/bytealg.MaxLen"], apart := false, laid := [("unicode/utf8.acceptRanges", laid_unicode_utf8_acceptRanges), ("unicode/utf8.first", laid_unicode_utf8_first)], narrowed := true }
def DumpBackUptoSaid : Prop := dumpBackUptoRow.holds Tryz.pinned (OpenSpec.upto dumpBackSpec)

/-- 'factotumlaw30.DumpWrites', WHERE WHAT IT READS IS OF BULK AT MOST 1048576: true; the input reads as it did. -/
def dumpWritesUptoRow : OpenClaim := { program := "ytbhdhhgpfanmcaagreatdoor", sum := "2fb116829a226d711155fba5d93b1376a70f03cc97d5718cc3f30ac97f267729", func := "factotum/factotumlaw30.DumpWrites", spec := "dumpWrites", inPlace := ["internal/abi.NoEscape", "internal/bytealg.MakeNoZero", "internal/bytealg.IndexByteString", "internal/bytealg.IndexString", "slices.overlaps[factotum/api.Pair]", "maps.clone"], unfollowed := true, recurses := true, named := ["unicode/utf8.first", "unicode/utf8.acceptRanges", "internal/bytealg.MaxLen"], apart := false, laid := [("unicode/utf8.acceptRanges", laid_unicode_utf8_acceptRanges), ("unicode/utf8.first", laid_unicode_utf8_first)], narrowed := true }
def DumpWritesUptoSaid : Prop := dumpWritesUptoRow.holds Tryz.pinned (OpenSpec.upto dumpWritesSpec)

end Rows
end Go.Proofs.YtbhdhhgpfanmcaaGreatDoor
