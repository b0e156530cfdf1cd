/- The law TreeDrops: its card: the row tied to the text. Conditions: those of the given row alone. -/
import Derived.Test.YtnngjdfadfblmaaGreatDoorCards
import Derived.Test.YtnngjdfadfblmaaGreatDoorTie
import Derived.Test.YtnngjdfadfblmaaGreatDoorRowTreeDrops
namespace Go.Proofs.YtnngjdfadfblmaaGreatDoor.treeDrops
set_option linter.unusedVariables false
set_option linter.unusedSimpArgs false
set_option maxRecDepth 100000
theorem plain (f : FuncId) (fn : Func) (hf : Tryz.pinned.checked.prog.funcNamed "factotum/factotumlaw10.TreeDrops" = some f) (hfn : Tryz.pinned.checked.prog.funcs[f]? = some fn) :
    true = Tryz.pinned.checked.prog.looks [] ∧ ∀ (j : Nat) t, fn.params[j]? = some t → Tryz.pinned.checked.prog.wantsStandIn t = false := by
  obtain rfl : f = 8 := Option.some.inj ((show Tryz.prog.funcNamed "factotum/factotumlaw10.TreeDrops" = some 8 by kernel_rfl).symm.trans hf) |>.symm
  obtain rfl : fn = Tryz.f8 := (Option.some.inj (Tryz.func8.symm.trans hfn)).symm
  refine ⟨by kernel_rfl, fun j t ht => ?_⟩
  rw [Tryz.params8] at ht
  have ht := Array.mem_of_getElem? ht
  simp only [List.mem_toArray, List.mem_cons, List.not_mem_nil, or_false] at ht
  have hs : Tryz.prog.wantsStandIn t = false := by rcases ht with rfl | rfl | rfl <;> kernel_rfl
  exact hs
theorem card : Rows.TreeDropsCardSaid :=
  Claim7.holds_tied_plain_at .later [] _ _ _ _ said (fun _ h => by cases h) (by kernel_rfl) (fun _ h => by cases h) treeDrops_row_tie rfl ⟨rfl, rfl⟩ (by kernel_rfl) rfl plain (by kernel_rfl)
end Go.Proofs.YtnngjdfadfblmaaGreatDoor.treeDrops
namespace Go.Proofs.YtnngjdfadfblmaaGreatDoor
/-- The card, under a short name, for the claim. -/
theorem treeDropsCard_holds : Rows.TreeDropsCardSaid := treeDrops.card
#print axioms treeDropsCard_holds
end Go.Proofs.YtnngjdfadfblmaaGreatDoor
