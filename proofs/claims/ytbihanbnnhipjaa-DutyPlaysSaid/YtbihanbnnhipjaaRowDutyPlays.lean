/- The law DutyPlays holds: whatever it is handed, the call returns true, and each argument reads behind the call as it read before. Conditions: those of the given row alone. -/
import Derived.Test.YtbihanbnnhipjaaRows
import Derived.Test.YtbihanbnnhipjaaDutyPlaysW
import Derived.WalkKit
import Derived.ProofKit
import Derived.OpenShut
import Derived.ShutString
import Derived.ChangeOld
import Derived.Below
import Derived.Carry
import Derived.SizedLaws
namespace Go.Proofs.Ytbihanbnnhipjaa.dutyPlays
open Go.ChangeShapes Go.WideShapes Go.ChangeAt Go.RowKit
open Go.ChangeMaps (open_string shut_string)
set_option linter.unusedVariables false
set_option linter.unusedSimpArgs false
theorem own : ownKnob Try.prog.godebug = none := by kernel_rfl
theorem laidOut : laidOutB Try.prog = true := by kernel_rfl
open Go.Fx Go.Fx.Try in
theorem law (m : Mem) (args : List Value) (hro : AllRo m) (hlen : args.length = [48].length) (hwt : ∀ (i : Nat) t (a : Value), [48][i]? = some t → args[i]? = some a → WT Try.prog m 5 t a.cells.toList ∧ (aggT Try.prog t = some false → ∀ xs, a ≠ .agg xs)) :
    ∃ m', Go.Fx.Call Go.Fx.Try.S Go.Fx.Try.tab 7 args m = some (Value.bool true, m') := by
    match args, hlen with
    | [v], _ =>
      obtain ⟨hv, hna⟩ := hwt 0 48 v rfl rfl
      obtain ⟨ops, h1, h2, h3, h4⟩ := WT.tslice encD (e := 54) (by kernel_rfl) (by kernel_rfl) (by decide) (by kernel_rfl) (fun cs h => dop_of h) hv (hna (by kernel_rfl))
      have hb : Proofs.Try.prog.bytesOf 54 = 40 := by kernel_rfl
      have hr : reachBytes ≤ 2 ^ 58 := by decide
      exact dutyPlays h1 h3 h4 (by have := h2.2; rw [hb] at this; omega)
set_option maxRecDepth 100000 in
theorem lifted (os : Os) (started : os.Started) (H : Type) (enc : TypeId × Value → H) :
    ReturnsInHanded {} Try.checked os 7 .any (Rows.dutyPlaysSpec.pre6 enc Try.prog Try.f7 Rows.dutyPlaysRow.domain false) (Rows.dutyPlaysSpec.post enc Try.prog Try.f7 false true false false) := by
  refine returnsInHanded_of_change_sized (C := Try.checked) own started (by kernel_rfl) Try.func7
    (ChangeSpec.witness6 (enc := enc) (C := Try.checked) false ⟨#[], #[.slice none 0 0], []⟩ 8 (by kernel_rfl) (by kernel_rfl) (by kernel_rfl) (by kernel_rfl)) ?_
  intro W base args ds gs before hval0 hW hcnd hsz0 _
  have hval : ∀ (j : Nat) t v, Try.f7.params[j]? = some t → args[j]? = some v → Value.okWide Try.prog W .any base t v := hval0
  have hW' := hW
  obtain ⟨p, q, hA0, hV, rfl, hfz, hnd⟩ := hW
  have hA : DataW.TrodAll enc Try.prog W 0 (fun _ => true) true Try.f7.params.toList args.toList ds p := hA0
  rw [Try.params7] at hA hval hsz0
  have hcalls := Go.Fx.law_calls Go.Fx.Try.Sok Go.Fx.Try.Sgood Go.Fx.Try.mixed Go.Fx.Try.tabOk Go.Fx.Try.tabGood (f := 7) (n := 5) hA (Go.Fx.sized_each hsz0)
    (by intro t ht; simp only [List.mem_cons, List.not_mem_nil, or_false] at ht; subst ht; kernel_rfl)
    (fun i t v ht hv hag => Go.Fx.okWide_not_agg (hval i t v (by simpa using ht) (by simpa using hv)) hag) (fun m args hro hlen hwt => law m args hro hlen hwt)
  obtain ⟨v0, vs0, d0, ds0, p0, q0, hargs, rfl, rfl, h0, r0⟩ := trodAll_cons hA
  obtain ⟨rfl, rfl, rfl⟩ := trodAll_nil r0
  obtain rfl : args = #[v0] := by cases args; simp_all
  obtain ⟨rfl, rfl⟩ := trodVars_none hV
  have lt0 : ∀ x ∈ p0, x.block < W.heap.size := by obtain ⟨m, hm⟩ := h0; exact DataW.trod_lt m _ _ _ hm
  refine hcalls.mono fun e W' ⟨he, bel⟩ => ?_
  subst he
  exact ⟨_, rfl, _, _, _, [], _, [], hW', trodAll_mk1 (shut_bool Try.underlying4 _), (trodAll_cons_mk (Below.trod laidOut (by kernel_rfl) (of_decide_eq_true (by kernel_rfl)) h0 bel lt0) trodAll_mk0), rfl, bel.frame _, fun h => by cases h⟩
theorem over : Rows.dutyPlaysRow.holds Try.pinned (OpenSpec.ofChange Rows.dutyPlaysSpec) :=
  OpenClaim.holds_of_wide 7 Try.f7 rfl rfl rfl rfl rfl rfl rfl ⟨rfl, rfl, rfl, rfl, rfl⟩ rfl rfl rfl rfl rfl (by kernel_rfl) Try.func7 (by kernel_rfl)
    (of_decide_eq_true (by kernel_rfl)) (by unfold Func.isWrapper; first | (rw [if_pos (by decide +kernel)]; kernel_rfl) | (rw [if_neg (by decide +kernel)]; exact ⟨rfl, rfl⟩))
    (fun os started H enc _ => lifted os started H enc)
theorem proved : Rows.DutyPlaysSaid := over
end Go.Proofs.Ytbihanbnnhipjaa.dutyPlays
namespace Go.Proofs.Ytbihanbnnhipjaa
/-- The row, under a short name, for the claim. -/
theorem dutyPlays_holds : Rows.DutyPlaysSaid := dutyPlays.proved
#print axioms dutyPlays_holds
end Go.Proofs.Ytbihanbnnhipjaa
