/- The hooks put together; the table. -/
import Derived.Test.YtnngjdfadfblmaaGreatDoorHookA
import Derived.Test.YtnngjdfadfblmaaGreatDoorHookI
import Derived.Test.YtnngjdfadfblmaaGreatDoorHookK
import Derived.Test.YtnngjdfadfblmaaGreatDoorFxDec
namespace Go.Fx.Tryz
open Go Go.Fx Go.Proofs
set_option linter.unusedVariables false

noncomputable abbrev P : Program := Tryz.prog
theorem mixed : P.follows .mixedOrders = true := by kernel_rfl
theorem ynum (N k : Nat) (hk : k < 1000) : ¬ (yBase + N : FuncId) = k := by
  intro h
  have h1 : yBase + N = k := h
  have h2 : 1000 < yBase := by decide
  omega
/-- The hooks. -/
def S : CallF := fun f l m => if f = 68 then aRepeat l m else if f = 153 then aTrim l m else if f = 124 then aInsert l m else if f = 130 then aSortS l m else if f = 122 then aSortI l m else none
theorem Sok : CallOk P S := by
  refine ⟨fun f args m v m' hf h φ w ARGS hi ha => ?_, fun N args m v m' h => ?_⟩
  · unfold S at h
    split at h
    · rename_i e; subst e; exact ok_repeat h hi ha
    split at h
    · rename_i e; subst e; exact ok_trim h hi ha
    split at h
    · rename_i e; subst e; exact ok_insert h hi ha
    split at h
    · rename_i e; subst e; exact ok_sortS h hi ha
    split at h
    · rename_i e; subst e; exact ok_sortI h hi ha
    cases h
  · unfold S at h
    rw [if_neg (ynum N _ (by decide)), if_neg (ynum N _ (by decide)), if_neg (ynum N _ (by decide)), if_neg (ynum N _ (by decide)), if_neg (ynum N _ (by decide))] at h
    cases h
theorem Sgood : ∀ f args m r, f < yBase → S f args m = some r → goodFn P f = true := by
  intro f args m r _ h
  unfold S at h
  split at h
  · rename_i e; subst e; kernel_rfl
  split at h
  · rename_i e; subst e; kernel_rfl
  split at h
  · rename_i e; subst e; kernel_rfl
  split at h
  · rename_i e; subst e; kernel_rfl
  split at h
  · rename_i e; subst e; kernel_rfl
  cases h
noncomputable abbrev tab : Tab := tabP P
theorem tabOk : TabOk P tab := tabP_ok P
theorem tabGood : ∀ f x, tab f = some x → goodFn P f = true := tabP_good P
end Go.Fx.Tryz
