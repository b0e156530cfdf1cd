/-
  No cell of these rows narrows 'for every input' (looked for: loops, veiled, ifaces, maps, wideKeys, modest, calm, conditions, laid).
  DERIVED. THE GIVEN ROWS OF THIS SEAT. 9 by the template 'for every input the law returns true; each argument reads behind the call as it read before'; 0 by the template 'total and deterministic' (their statements: YtbihanbnnhipjaaTotals.lean).
  GIVEN WITH THE SEED: the statements are not yours to turn. If you find one false, say at which input.
  Laid BY PROGRAM, IN A SANDBOX (cutbox-rows.mjs): the forced cells as the released guide's own fill.sh prints them over the translation 811b152bd1d0eb59… (all of the seat's roots in one cut). By AI agents, Wed Nov 11 2026. No macro, syntax, notation, axiom, sorry.
-/
import Derived.Test.YtbihanbnnhipjaaChecked
import GoSem.Claim
import GoSem.ClaimJoined
import GoSem.ClaimMapViews
import Derived.JoinedTies
import Derived.KernelRfl
namespace Go.Proofs.Ytbihanbnnhipjaa
/- THE CELL 'sum', in the pinned program and in every row, IS THE sha256 OF THE DUMP (.gsa) THAT YtbihanbnnhipjaaProg.lean LOADS. Nothing in Lean hashes anything: it is a label: what it is worth is what the hold of that sum in a sandbox is worth. -/
noncomputable def Try.pinned : Pinned := { name := "ytbihanbnnhipjaa", sum := "811b152bd1d0eb595b4051bf816769d65033c2cb292d14b0733e5239e2a9bdb0", checked := Try.checked }
namespace Rows
def none {H : Type} : Left H := { results := [], args := [] }

/-- 'factotumlaw20.InboxTakes': WHATEVER THE INPUT: true; the input reads as it did. -/
def inboxTakesSpec : ChangeSpec := { name := "inboxTakes", fn := fun _ => fun
  | [d1, d2] => { results := [.lit (.bool true)], args := [d1, d2] }
  | _ => none }
def inboxTakesRow : OpenClaim := { program := "ytbihanbnnhipjaa", sum := "811b152bd1d0eb595b4051bf816769d65033c2cb292d14b0733e5239e2a9bdb0", func := "factotum/factotumlaw20.InboxTakes", spec := "inboxTakes", apart := false }
def InboxTakesSaid : Prop := inboxTakesRow.holds Try.pinned (OpenSpec.ofChange inboxTakesSpec)

/-- ITS FALSE NEIGHBOUR: 'it returns false'. Refute it at one input. -/
def inboxTakesWrong : ChangeSpec := { name := "inboxTakes", fn := fun _ => fun
  | [d1, d2] => { results := [.lit (.bool false)], args := [d1, d2] }
  | _ => none }
def InboxTakesWrongFalsely : Prop := inboxTakesRow.holds Try.pinned (OpenSpec.ofChange inboxTakesWrong)

/-- 'factotumlaw20.InboxOnce': WHATEVER THE INPUT: true; the input reads as it did. -/
def inboxOnceSpec : ChangeSpec := { name := "inboxOnce", fn := fun _ => fun
  | [d] => { results := [.lit (.bool true)], args := [d] }
  | _ => none }
def inboxOnceRow : OpenClaim := { program := "ytbihanbnnhipjaa", sum := "811b152bd1d0eb595b4051bf816769d65033c2cb292d14b0733e5239e2a9bdb0", func := "factotum/factotumlaw20.InboxOnce", spec := "inboxOnce", apart := false }
def InboxOnceSaid : Prop := inboxOnceRow.holds Try.pinned (OpenSpec.ofChange inboxOnceSpec)

/-- ITS FALSE NEIGHBOUR: 'it returns false'. Refute it at one input. -/
def inboxOnceWrong : ChangeSpec := { name := "inboxOnce", fn := fun _ => fun
  | [d] => { results := [.lit (.bool false)], args := [d] }
  | _ => none }
def InboxOnceWrongFalsely : Prop := inboxOnceRow.holds Try.pinned (OpenSpec.ofChange inboxOnceWrong)

/-- 'factotumlaw20.InboxStream': WHATEVER THE INPUT: true; the input reads as it did. -/
def inboxStreamSpec : ChangeSpec := { name := "inboxStream", fn := fun _ => fun
  | [d1, d2] => { results := [.lit (.bool true)], args := [d1, d2] }
  | _ => none }
def inboxStreamRow : OpenClaim := { program := "ytbihanbnnhipjaa", sum := "811b152bd1d0eb595b4051bf816769d65033c2cb292d14b0733e5239e2a9bdb0", func := "factotum/factotumlaw20.InboxStream", spec := "inboxStream", apart := false }
def InboxStreamSaid : Prop := inboxStreamRow.holds Try.pinned (OpenSpec.ofChange inboxStreamSpec)

/-- ITS FALSE NEIGHBOUR: 'it returns false'. Refute it at one input. -/
def inboxStreamWrong : ChangeSpec := { name := "inboxStream", fn := fun _ => fun
  | [d1, d2] => { results := [.lit (.bool false)], args := [d1, d2] }
  | _ => none }
def InboxStreamWrongFalsely : Prop := inboxStreamRow.holds Try.pinned (OpenSpec.ofChange inboxStreamWrong)

/-- 'factotumlaw20.InboxNil': WHATEVER THE INPUT: true; the input reads as it did. -/
def inboxNilSpec : ChangeSpec := { name := "inboxNil", fn := fun _ => fun
  | [d] => { results := [.lit (.bool true)], args := [d] }
  | _ => none }
def inboxNilRow : OpenClaim := { program := "ytbihanbnnhipjaa", sum := "811b152bd1d0eb595b4051bf816769d65033c2cb292d14b0733e5239e2a9bdb0", func := "factotum/factotumlaw20.InboxNil", spec := "inboxNil", apart := false }
def InboxNilSaid : Prop := inboxNilRow.holds Try.pinned (OpenSpec.ofChange inboxNilSpec)

/-- ITS FALSE NEIGHBOUR: 'it returns false'. Refute it at one input. -/
def inboxNilWrong : ChangeSpec := { name := "inboxNil", fn := fun _ => fun
  | [d] => { results := [.lit (.bool false)], args := [d] }
  | _ => none }
def InboxNilWrongFalsely : Prop := inboxNilRow.holds Try.pinned (OpenSpec.ofChange inboxNilWrong)

/-- 'factotumlaw24.DutyPlays': WHATEVER THE INPUT: true; the input reads as it did. -/
def dutyPlaysSpec : ChangeSpec := { name := "dutyPlays", fn := fun _ => fun
  | [d] => { results := [.lit (.bool true)], args := [d] }
  | _ => none }
def dutyPlaysRow : OpenClaim := { program := "ytbihanbnnhipjaa", sum := "811b152bd1d0eb595b4051bf816769d65033c2cb292d14b0733e5239e2a9bdb0", func := "factotum/factotumlaw24.DutyPlays", spec := "dutyPlays", apart := false }
def DutyPlaysSaid : Prop := dutyPlaysRow.holds Try.pinned (OpenSpec.ofChange dutyPlaysSpec)

/-- ITS FALSE NEIGHBOUR: 'it returns false'. Refute it at one input. -/
def dutyPlaysWrong : ChangeSpec := { name := "dutyPlays", fn := fun _ => fun
  | [d] => { results := [.lit (.bool false)], args := [d] }
  | _ => none }
def DutyPlaysWrongFalsely : Prop := dutyPlaysRow.holds Try.pinned (OpenSpec.ofChange dutyPlaysWrong)

/-- 'factotumlaw24.DutyFair': WHATEVER THE INPUT: true; the input reads as it did. -/
def dutyFairSpec : ChangeSpec := { name := "dutyFair", fn := fun _ => fun
  | [d1, d2, d3] => { results := [.lit (.bool true)], args := [d1, d2, d3] }
  | _ => none }
def dutyFairRow : OpenClaim := { program := "ytbihanbnnhipjaa", sum := "811b152bd1d0eb595b4051bf816769d65033c2cb292d14b0733e5239e2a9bdb0", func := "factotum/factotumlaw24.DutyFair", spec := "dutyFair", apart := false }
def DutyFairSaid : Prop := dutyFairRow.holds Try.pinned (OpenSpec.ofChange dutyFairSpec)

/-- ITS FALSE NEIGHBOUR: 'it returns false'. Refute it at one input. -/
def dutyFairWrong : ChangeSpec := { name := "dutyFair", fn := fun _ => fun
  | [d1, d2, d3] => { results := [.lit (.bool false)], args := [d1, d2, d3] }
  | _ => none }
def DutyFairWrongFalsely : Prop := dutyFairRow.holds Try.pinned (OpenSpec.ofChange dutyFairWrong)

/-- 'factotumlaw24.DutyTurns': WHATEVER THE INPUT: true; the input reads as it did. -/
def dutyTurnsSpec : ChangeSpec := { name := "dutyTurns", fn := fun _ => fun
  | [d1, d2] => { results := [.lit (.bool true)], args := [d1, d2] }
  | _ => none }
def dutyTurnsRow : OpenClaim := { program := "ytbihanbnnhipjaa", sum := "811b152bd1d0eb595b4051bf816769d65033c2cb292d14b0733e5239e2a9bdb0", func := "factotum/factotumlaw24.DutyTurns", spec := "dutyTurns", apart := false }
def DutyTurnsSaid : Prop := dutyTurnsRow.holds Try.pinned (OpenSpec.ofChange dutyTurnsSpec)

/-- ITS FALSE NEIGHBOUR: 'it returns false'. Refute it at one input. -/
def dutyTurnsWrong : ChangeSpec := { name := "dutyTurns", fn := fun _ => fun
  | [d1, d2] => { results := [.lit (.bool false)], args := [d1, d2] }
  | _ => none }
def DutyTurnsWrongFalsely : Prop := dutyTurnsRow.holds Try.pinned (OpenSpec.ofChange dutyTurnsWrong)

/-- 'factotumlaw24.DutyNil': WHATEVER THE INPUT: true; the input reads as it did. -/
def dutyNilSpec : ChangeSpec := { name := "dutyNil", fn := fun _ => fun
  | [d] => { results := [.lit (.bool true)], args := [d] }
  | _ => none }
def dutyNilRow : OpenClaim := { program := "ytbihanbnnhipjaa", sum := "811b152bd1d0eb595b4051bf816769d65033c2cb292d14b0733e5239e2a9bdb0", func := "factotum/factotumlaw24.DutyNil", spec := "dutyNil", apart := false }
def DutyNilSaid : Prop := dutyNilRow.holds Try.pinned (OpenSpec.ofChange dutyNilSpec)

/-- ITS FALSE NEIGHBOUR: 'it returns false'. Refute it at one input. -/
def dutyNilWrong : ChangeSpec := { name := "dutyNil", fn := fun _ => fun
  | [d] => { results := [.lit (.bool false)], args := [d] }
  | _ => none }
def DutyNilWrongFalsely : Prop := dutyNilRow.holds Try.pinned (OpenSpec.ofChange dutyNilWrong)

/-- 'factotumlaw24.DutyRounds': WHATEVER THE INPUT: true; the input reads as it did. -/
def dutyRoundsSpec : ChangeSpec := { name := "dutyRounds", fn := fun _ => fun
  | [d1, d2] => { results := [.lit (.bool true)], args := [d1, d2] }
  | _ => none }
def dutyRoundsRow : OpenClaim := { program := "ytbihanbnnhipjaa", sum := "811b152bd1d0eb595b4051bf816769d65033c2cb292d14b0733e5239e2a9bdb0", func := "factotum/factotumlaw24.DutyRounds", spec := "dutyRounds", apart := false }
def DutyRoundsSaid : Prop := dutyRoundsRow.holds Try.pinned (OpenSpec.ofChange dutyRoundsSpec)

/-- ITS FALSE NEIGHBOUR: 'it returns false'. Refute it at one input. -/
def dutyRoundsWrong : ChangeSpec := { name := "dutyRounds", fn := fun _ => fun
  | [d1, d2] => { results := [.lit (.bool false)], args := [d1, d2] }
  | _ => none }
def DutyRoundsWrongFalsely : Prop := dutyRoundsRow.holds Try.pinned (OpenSpec.ofChange dutyRoundsWrong)

/- THE SECOND FORM. 'bulk': how many values and letters a reading holds, each counted each time it is reached (what is shared counts as often as it is met; a slice's spare places count too). A statement '..UptoSaid' is the law's where the arguments, and the package variables that the reading takes, are together of bulk at most 1048576: NARROWER than '..Said'. Prove '..Said' where nothing that the law and all that it calls make is longer than what came in: it says more and counts as full. Else prove '..UptoSaid'. A law counts once. -/
mutual
def uptoBulk {H : Type} : DataW H → Nat
  | .lit (.string bytes) => bytes.length + 1
  | .lit _ => 1
  | .nil => 1
  | .ptr d => uptoBulk d + 1
  | .slice elems spare => uptoBulkAll elems + uptoBulkAll spare + 1
  | .agg parts => uptoBulkAll parts + 1
  | .iface _ d => uptoBulk d + 1
  | .map entries => uptoBulkEntries entries + 1
  | .held _ => 1
def uptoBulkAll {H : Type} : List (DataW H) → Nat
  | [] => 0
  | d :: r => uptoBulk d + uptoBulkAll r
def uptoBulkEntries {H : Type} : List (Lit × DataW H) → Nat
  | [] => 0
  | x :: r => uptoBulkEntry x + uptoBulkEntries r
def uptoBulkEntry {H : Type} : Lit × DataW H → Nat
  | (.string bytes, d) => bytes.length + uptoBulk d + 1
  | (_, d) => uptoBulk d + 1
 end
def uptoSmall : (H : Type) → List (DataW H) → Bool := fun _ ds => decide (uptoBulkAll ds ≤ 1048576)
def OpenSpec.upto (s : _root_.Go.ChangeSpec) : _root_.Go.OpenSpec := { _root_.Go.OpenSpec.ofChange s with cond := some uptoSmall }

/-- 'factotumlaw20.InboxTakes', WHERE WHAT IT READS IS OF BULK AT MOST 1048576: true; the input reads as it did. -/
def inboxTakesUptoRow : OpenClaim := { program := "ytbihanbnnhipjaa", sum := "811b152bd1d0eb595b4051bf816769d65033c2cb292d14b0733e5239e2a9bdb0", func := "factotum/factotumlaw20.InboxTakes", spec := "inboxTakes", apart := false, narrowed := true }
def InboxTakesUptoSaid : Prop := inboxTakesUptoRow.holds Try.pinned (OpenSpec.upto inboxTakesSpec)

/-- 'factotumlaw20.InboxOnce', WHERE WHAT IT READS IS OF BULK AT MOST 1048576: true; the input reads as it did. -/
def inboxOnceUptoRow : OpenClaim := { program := "ytbihanbnnhipjaa", sum := "811b152bd1d0eb595b4051bf816769d65033c2cb292d14b0733e5239e2a9bdb0", func := "factotum/factotumlaw20.InboxOnce", spec := "inboxOnce", apart := false, narrowed := true }
def InboxOnceUptoSaid : Prop := inboxOnceUptoRow.holds Try.pinned (OpenSpec.upto inboxOnceSpec)

/-- 'factotumlaw20.InboxStream', WHERE WHAT IT READS IS OF BULK AT MOST 1048576: true; the input reads as it did. -/
def inboxStreamUptoRow : OpenClaim := { program := "ytbihanbnnhipjaa", sum := "811b152bd1d0eb595b4051bf816769d65033c2cb292d14b0733e5239e2a9bdb0", func := "factotum/factotumlaw20.InboxStream", spec := "inboxStream", apart := false, narrowed := true }
def InboxStreamUptoSaid : Prop := inboxStreamUptoRow.holds Try.pinned (OpenSpec.upto inboxStreamSpec)

/-- 'factotumlaw20.InboxNil', WHERE WHAT IT READS IS OF BULK AT MOST 1048576: true; the input reads as it did. -/
def inboxNilUptoRow : OpenClaim := { program := "ytbihanbnnhipjaa", sum := "811b152bd1d0eb595b4051bf816769d65033c2cb292d14b0733e5239e2a9bdb0", func := "factotum/factotumlaw20.InboxNil", spec := "inboxNil", apart := false, narrowed := true }
def InboxNilUptoSaid : Prop := inboxNilUptoRow.holds Try.pinned (OpenSpec.upto inboxNilSpec)

/-- 'factotumlaw24.DutyPlays', WHERE WHAT IT READS IS OF BULK AT MOST 1048576: true; the input reads as it did. -/
def dutyPlaysUptoRow : OpenClaim := { program := "ytbihanbnnhipjaa", sum := "811b152bd1d0eb595b4051bf816769d65033c2cb292d14b0733e5239e2a9bdb0", func := "factotum/factotumlaw24.DutyPlays", spec := "dutyPlays", apart := false, narrowed := true }
def DutyPlaysUptoSaid : Prop := dutyPlaysUptoRow.holds Try.pinned (OpenSpec.upto dutyPlaysSpec)

/-- 'factotumlaw24.DutyFair', WHERE WHAT IT READS IS OF BULK AT MOST 1048576: true; the input reads as it did. -/
def dutyFairUptoRow : OpenClaim := { program := "ytbihanbnnhipjaa", sum := "811b152bd1d0eb595b4051bf816769d65033c2cb292d14b0733e5239e2a9bdb0", func := "factotum/factotumlaw24.DutyFair", spec := "dutyFair", apart := false, narrowed := true }
def DutyFairUptoSaid : Prop := dutyFairUptoRow.holds Try.pinned (OpenSpec.upto dutyFairSpec)

/-- 'factotumlaw24.DutyTurns', WHERE WHAT IT READS IS OF BULK AT MOST 1048576: true; the input reads as it did. -/
def dutyTurnsUptoRow : OpenClaim := { program := "ytbihanbnnhipjaa", sum := "811b152bd1d0eb595b4051bf816769d65033c2cb292d14b0733e5239e2a9bdb0", func := "factotum/factotumlaw24.DutyTurns", spec := "dutyTurns", apart := false, narrowed := true }
def DutyTurnsUptoSaid : Prop := dutyTurnsUptoRow.holds Try.pinned (OpenSpec.upto dutyTurnsSpec)

/-- 'factotumlaw24.DutyNil', WHERE WHAT IT READS IS OF BULK AT MOST 1048576: true; the input reads as it did. -/
def dutyNilUptoRow : OpenClaim := { program := "ytbihanbnnhipjaa", sum := "811b152bd1d0eb595b4051bf816769d65033c2cb292d14b0733e5239e2a9bdb0", func := "factotum/factotumlaw24.DutyNil", spec := "dutyNil", apart := false, narrowed := true }
def DutyNilUptoSaid : Prop := dutyNilUptoRow.holds Try.pinned (OpenSpec.upto dutyNilSpec)

/-- 'factotumlaw24.DutyRounds', WHERE WHAT IT READS IS OF BULK AT MOST 1048576: true; the input reads as it did. -/
def dutyRoundsUptoRow : OpenClaim := { program := "ytbihanbnnhipjaa", sum := "811b152bd1d0eb595b4051bf816769d65033c2cb292d14b0733e5239e2a9bdb0", func := "factotum/factotumlaw24.DutyRounds", spec := "dutyRounds", apart := false, narrowed := true }
def DutyRoundsUptoSaid : Prop := dutyRoundsUptoRow.holds Try.pinned (OpenSpec.upto dutyRoundsSpec)

end Rows
end Go.Proofs.Ytbihanbnnhipjaa
