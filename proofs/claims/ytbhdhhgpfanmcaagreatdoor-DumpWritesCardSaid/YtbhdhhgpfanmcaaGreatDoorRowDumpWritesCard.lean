/- The law DumpWrites: its card: the row tied to the text. Conditions: those of the given row alone. -/
import Derived.Test.YtbhdhhgpfanmcaaGreatDoorCards
import Derived.Test.YtbhdhhgpfanmcaaGreatDoorTie
import Derived.Test.YtbhdhhgpfanmcaaGreatDoorRowDumpWrites
namespace Go.Proofs.YtbhdhhgpfanmcaaGreatDoor.dumpWrites
set_option linter.unusedVariables false
set_option linter.unusedSimpArgs false
set_option maxRecDepth 100000
theorem plain (f : FuncId) (fn : Func) (hf : Tryz.pinned.checked.prog.funcNamed "factotum/factotumlaw30.DumpWrites" = some f) (hfn : Tryz.pinned.checked.prog.funcs[f]? = some fn) :
    true = Tryz.pinned.checked.prog.looks [] ∧ ∀ (j : Nat) t, fn.params[j]? = some t → Tryz.pinned.checked.prog.wantsStandIn t = false := by
  obtain rfl : f = 6 := Option.some.inj ((show Tryz.prog.funcNamed "factotum/factotumlaw30.DumpWrites" = some 6 by kernel_rfl).symm.trans hf) |>.symm
  obtain rfl : fn = Tryz.f6 := (Option.some.inj (Tryz.func6.symm.trans hfn)).symm
  refine ⟨by kernel_rfl, fun j t ht => ?_⟩
  rw [Tryz.params6] at ht
  have ht := Array.mem_of_getElem? ht
  simp only [List.mem_toArray, List.mem_cons, List.not_mem_nil, or_false] at ht
  have hs : Tryz.prog.wantsStandIn t = false := by subst ht; kernel_rfl
  exact hs
theorem card : Rows.DumpWritesCardSaid :=
  Claim7.holds_tied_plain_at .later [] _ _ _ _ said (fun _ h => by cases h) (by kernel_rfl) (fun _ h => by cases h) dumpWrites_row_tie rfl ⟨rfl, rfl⟩ (by kernel_rfl) rfl plain (by kernel_rfl)
end Go.Proofs.YtbhdhhgpfanmcaaGreatDoor.dumpWrites
namespace Go.Proofs.YtbhdhhgpfanmcaaGreatDoor
/-- The card, under a short name, for the claim. -/
theorem dumpWritesCard_holds : Rows.DumpWritesCardSaid := dumpWrites.card
#print axioms dumpWritesCard_holds
end Go.Proofs.YtbhdhhgpfanmcaaGreatDoor
