/- What lives comes to. -/
import Derived.Test.YtnngjdfadfblmaaGreatDoorRun
namespace Go.Fx.Tryz
open Go Go.Fx
set_option linter.unusedVariables false
set_option maxRecDepth 1000000 in
theorem livesT : isT (rounds Run.TT Run.TP 100000 true 31 [] ⟨0, .leaf⟩) = true := by kernel_rfl
theorem livesC : ∃ m0, Call S tab 31 [] ⟨0, .leaf⟩ = some (.bool true, m0) := by
  obtain ⟨m0, h⟩ := isT_some livesT
  exact ⟨m0, Run.run_call h⟩
/-- The hooks, lives among them. -/
def S2 : CallF := fun f l m => if f = 31 then (match l with | [] => some (.bool true, m) | _ => none) else S f l m
theorem S2ok : CallOk P S2 := by
  refine ⟨fun f args m v m' hf h φ w ARGS hi ha => ?_, fun N args m v m' h => ?_⟩
  · unfold S2 at h
    split at h
    · rename_i e; subst e
      split at h
      · cases h
        obtain ⟨m0, h0⟩ := livesC
        exact closed_calls' Sok Sgood mixed tabOk tabGood hf h0 φ m w ARGS hi ha
      · cases h
    · exact Sok.fn f args m v m' hf h φ w ARGS hi ha
  · unfold S2 at h
    rw [if_neg (ynum N _ (by decide))] at h
    exact Sok.yl N args m v m' h
theorem S2good : ∀ f args m r, f < yBase → S2 f args m = some r → goodFn P f = true := by
  intro f args m r hf h
  unfold S2 at h
  split at h
  · rename_i e; subst e; kernel_rfl
  · exact Sgood f args m r hf h
end Go.Fx.Tryz
