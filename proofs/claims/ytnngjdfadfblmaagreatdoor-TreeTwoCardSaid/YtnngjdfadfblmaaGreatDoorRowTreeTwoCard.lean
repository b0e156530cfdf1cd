/- The law TreeTwo: its card: the row tied to the text. Conditions: those of the given row alone. -/
import Derived.Test.YtnngjdfadfblmaaGreatDoorCards
import Derived.Test.YtnngjdfadfblmaaGreatDoorTie
import Derived.Test.YtnngjdfadfblmaaGreatDoorRowTreeTwo
namespace Go.Proofs.YtnngjdfadfblmaaGreatDoor.treeTwo
set_option linter.unusedVariables false
set_option linter.unusedSimpArgs false
set_option maxRecDepth 100000
theorem plain (f : FuncId) (fn : Func) (hf : Tryz.pinned.checked.prog.funcNamed "factotum/factotumlaw10.TreeTwo" = some f) (hfn : Tryz.pinned.checked.prog.funcs[f]? = some fn) :
    true = Tryz.pinned.checked.prog.looks [] ∧ ∀ (j : Nat) t, fn.params[j]? = some t → Tryz.pinned.checked.prog.wantsStandIn t = false := by
  obtain rfl : f = 7 := Option.some.inj ((show Tryz.prog.funcNamed "factotum/factotumlaw10.TreeTwo" = some 7 by kernel_rfl).symm.trans hf) |>.symm
  obtain rfl : fn = Tryz.f7 := (Option.some.inj (Tryz.func7.symm.trans hfn)).symm
  refine ⟨by kernel_rfl, fun j t ht => ?_⟩
  rw [Tryz.params7] at ht
  have ht := Array.mem_of_getElem? ht
  simp only [List.mem_toArray, List.mem_cons, List.not_mem_nil, or_false] at ht
  have hs : Tryz.prog.wantsStandIn t = false := by rcases ht with rfl | rfl | rfl <;> kernel_rfl
  exact hs
theorem card : Rows.TreeTwoCardSaid :=
  Claim7.holds_tied_plain_at .later [] _ _ _ _ said (fun _ h => by cases h) (by kernel_rfl) (fun _ h => by cases h) treeTwo_row_tie rfl ⟨rfl, rfl⟩ (by kernel_rfl) rfl plain (by kernel_rfl)
end Go.Proofs.YtnngjdfadfblmaaGreatDoor.treeTwo
namespace Go.Proofs.YtnngjdfadfblmaaGreatDoor
/-- The card, under a short name, for the claim. -/
theorem treeTwoCard_holds : Rows.TreeTwoCardSaid := treeTwo.card
#print axioms treeTwoCard_holds
end Go.Proofs.YtnngjdfadfblmaaGreatDoor
