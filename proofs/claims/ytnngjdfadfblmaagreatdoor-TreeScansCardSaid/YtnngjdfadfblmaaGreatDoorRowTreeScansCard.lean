/- The law TreeScans: its card: the row tied to the text. Conditions: those of the given row alone. -/
import Derived.Test.YtnngjdfadfblmaaGreatDoorCards
import Derived.Test.YtnngjdfadfblmaaGreatDoorTie
import Derived.Test.YtnngjdfadfblmaaGreatDoorRowTreeScans
namespace Go.Proofs.YtnngjdfadfblmaaGreatDoor.treeScans
set_option linter.unusedVariables false
set_option linter.unusedSimpArgs false
set_option maxRecDepth 100000
theorem plain (f : FuncId) (fn : Func) (hf : Tryz.pinned.checked.prog.funcNamed "factotum/factotumlaw10.TreeScans" = some f) (hfn : Tryz.pinned.checked.prog.funcs[f]? = some fn) :
    true = Tryz.pinned.checked.prog.looks [] ∧ ∀ (j : Nat) t, fn.params[j]? = some t → Tryz.pinned.checked.prog.wantsStandIn t = false := by
  obtain rfl : f = 6 := Option.some.inj ((show Tryz.prog.funcNamed "factotum/factotumlaw10.TreeScans" = some 6 by kernel_rfl).symm.trans hf) |>.symm
  obtain rfl : fn = Tryz.f6 := (Option.some.inj (Tryz.func6.symm.trans hfn)).symm
  refine ⟨by kernel_rfl, fun j t ht => ?_⟩
  rw [Tryz.params6] at ht
  have ht := Array.mem_of_getElem? ht
  simp only [List.mem_toArray, List.mem_cons, List.not_mem_nil, or_false] at ht
  have hs : Tryz.prog.wantsStandIn t = false := by rcases ht with rfl | rfl | rfl <;> kernel_rfl
  exact hs
theorem card : Rows.TreeScansCardSaid :=
  Claim7.holds_tied_plain_at .later [] _ _ _ _ said (fun _ h => by cases h) (by kernel_rfl) (fun _ h => by cases h) treeScans_row_tie rfl ⟨rfl, rfl⟩ (by kernel_rfl) rfl plain (by kernel_rfl)
end Go.Proofs.YtnngjdfadfblmaaGreatDoor.treeScans
namespace Go.Proofs.YtnngjdfadfblmaaGreatDoor
/-- The card, under a short name, for the claim. -/
theorem treeScansCard_holds : Rows.TreeScansCardSaid := treeScans.card
#print axioms treeScansCard_holds
end Go.Proofs.YtnngjdfadfblmaaGreatDoor
