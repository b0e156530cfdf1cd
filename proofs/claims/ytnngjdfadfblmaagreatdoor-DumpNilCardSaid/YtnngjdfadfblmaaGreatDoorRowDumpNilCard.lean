/- The law DumpNil: its card: the row tied to the text. Conditions: those of the given row alone. -/
import Derived.Test.YtnngjdfadfblmaaGreatDoorCards
import Derived.Test.YtnngjdfadfblmaaGreatDoorTie
import Derived.Test.YtnngjdfadfblmaaGreatDoorRowDumpNil
namespace Go.Proofs.YtnngjdfadfblmaaGreatDoor.dumpNil
set_option linter.unusedVariables false
set_option linter.unusedSimpArgs false
set_option maxRecDepth 100000
theorem plain (f : FuncId) (fn : Func) (hf : Tryz.pinned.checked.prog.funcNamed "factotum/factotumlaw30.DumpNil" = some f) (hfn : Tryz.pinned.checked.prog.funcs[f]? = some fn) :
    true = Tryz.pinned.checked.prog.looks [] ∧ ∀ (j : Nat) t, fn.params[j]? = some t → Tryz.pinned.checked.prog.wantsStandIn t = false := by
  obtain rfl : f = 10 := Option.some.inj ((show Tryz.prog.funcNamed "factotum/factotumlaw30.DumpNil" = some 10 by kernel_rfl).symm.trans hf) |>.symm
  obtain rfl : fn = Tryz.f10 := (Option.some.inj (Tryz.func10.symm.trans hfn)).symm
  refine ⟨by kernel_rfl, fun j t ht => ?_⟩
  rw [Tryz.params10] at ht
  have ht := Array.mem_of_getElem? ht
  simp only [List.mem_toArray, List.mem_cons, List.not_mem_nil, or_false] at ht
  have hs : Tryz.prog.wantsStandIn t = false := by subst ht; kernel_rfl
  exact hs
theorem card : Rows.DumpNilCardSaid :=
  Claim7.holds_tied_plain_at .later [] _ _ _ _ said (fun _ h => by cases h) (by kernel_rfl) (fun _ h => by cases h) dumpNil_row_tie rfl ⟨rfl, rfl⟩ (by kernel_rfl) rfl plain (by kernel_rfl)
end Go.Proofs.YtnngjdfadfblmaaGreatDoor.dumpNil
namespace Go.Proofs.YtnngjdfadfblmaaGreatDoor
/-- The card, under a short name, for the claim. -/
theorem dumpNilCard_holds : Rows.DumpNilCardSaid := dumpNil.card
#print axioms dumpNilCard_holds
end Go.Proofs.YtnngjdfadfblmaaGreatDoor
