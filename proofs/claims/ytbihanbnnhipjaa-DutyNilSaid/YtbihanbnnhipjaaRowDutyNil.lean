/- The law DutyNil holds: whatever it is handed, the call returns true, and each argument reads behind the call as it read before. Conditions: those of the given row alone. -/
import Derived.Test.YtbihanbnnhipjaaRows
import Derived.Test.YtbihanbnnhipjaaDutyA
import Derived.WalkKit
import Derived.ProofKit
import Derived.OpenShut
import Derived.ShutString
import Derived.ChangeOld
import Derived.Below
import Derived.Carry
import Derived.SizedLaws
namespace Go.Proofs.Ytbihanbnnhipjaa.dutyNil
open Go.ChangeShapes Go.WideShapes Go.ChangeAt Go.RowKit
open Go.ChangeMaps (open_string shut_string)
set_option linter.unusedVariables false
set_option linter.unusedSimpArgs false
theorem own : ownKnob Try.prog.godebug = none := by kernel_rfl
theorem laidOut : laidOutB Try.prog = true := by kernel_rfl
open Go.Fx Go.Fx.Try in
theorem law (m : Mem) (args : List Value) (hro : AllRo m) (hlen : args.length = [3].length) (hwt : ∀ (i : Nat) t (a : Value), [3][i]? = some t → args[i]? = some a → WT Try.prog m 4 t a.cells.toList ∧ (aggT Try.prog t = some false → ∀ xs, a ≠ .agg xs)) :
    ∃ m', Go.Fx.Call Go.Fx.Try.S Go.Fx.Try.tab 10 args m = some (Value.bool true, m') := by
    match args, hlen with
    | [k], _ =>
      obtain ⟨hk, hkn⟩ := hwt 0 3 k rfl rfl
      obtain ⟨x, hx, _⟩ := WT.int (k := .i64) (by kernel_rfl) hk
      obtain rfl := one_of (hkn (by kernel_rfl)) hx
      exact dutyNil x m
set_option maxRecDepth 100000 in
theorem lifted (os : Os) (started : os.Started) (H : Type) (enc : TypeId × Value → H) :
    ReturnsInHanded {} Try.checked os 10 .any (Rows.dutyNilSpec.pre6 enc Try.prog Try.f10 Rows.dutyNilRow.domain false) (Rows.dutyNilSpec.post enc Try.prog Try.f10 false true false false) := by
  refine returnsInHanded_of_change_sized (C := Try.checked) own started (by kernel_rfl) Try.func10
    (ChangeSpec.witness6 (enc := enc) (C := Try.checked) false ⟨#[], #[.int .i64 0], []⟩ 8 (by kernel_rfl) (by kernel_rfl) (by kernel_rfl) (by kernel_rfl)) ?_
  intro W base args ds gs before hval0 hW hcnd hsz0 _
  have hval : ∀ (j : Nat) t v, Try.f10.params[j]? = some t → args[j]? = some v → Value.okWide Try.prog W .any base t v := hval0
  have hW' := hW
  obtain ⟨p, q, hA0, hV, rfl, hfz, hnd⟩ := hW
  have hA : DataW.TrodAll enc Try.prog W 0 (fun _ => true) true Try.f10.params.toList args.toList ds p := hA0
  rw [Try.params10] at hA hval
  have hcalls := Go.Fx.law_calls Go.Fx.Try.Sok Go.Fx.Try.Sgood Go.Fx.Try.mixed Go.Fx.Try.tabOk Go.Fx.Try.tabGood (f := 10) (n := 4) hA
    (by intro t ht; simp only [List.mem_cons, List.not_mem_nil, or_false] at ht; subst ht; kernel_rfl)
    (fun i t v ht hv hag => Go.Fx.okWide_not_agg (hval i t v (by simpa using ht) (by simpa using hv)) hag) (fun m args hro hlen hwt => law m args hro hlen hwt)
  obtain ⟨v0, vs0, d0, ds0, p0, q0, hargs, rfl, rfl, h0, r0⟩ := trodAll_cons hA
  obtain ⟨rfl, rfl, rfl⟩ := trodAll_nil r0
  obtain rfl : args = #[v0] := by cases args; simp_all
  obtain ⟨rfl, rfl⟩ := trodVars_none hV
  have lt0 : ∀ x ∈ p0, x.block < W.heap.size := by obtain ⟨m, hm⟩ := h0; exact DataW.trod_lt m _ _ _ hm
  refine hcalls.mono fun e W' ⟨he, bel⟩ => ?_
  subst he
  exact ⟨_, rfl, _, _, _, [], _, [], hW', trodAll_mk1 (shut_bool Try.underlying4 _), (trodAll_cons_mk (Below.trod laidOut (by kernel_rfl) (of_decide_eq_true (by kernel_rfl)) h0 bel lt0) trodAll_mk0), rfl, bel.frame _, fun h => by cases h⟩
theorem over : Rows.dutyNilRow.holds Try.pinned (OpenSpec.ofChange Rows.dutyNilSpec) :=
  OpenClaim.holds_of_wide 10 Try.f10 rfl rfl rfl rfl rfl rfl rfl ⟨rfl, rfl, rfl, rfl, rfl⟩ rfl rfl rfl rfl rfl (by kernel_rfl) Try.func10 (by kernel_rfl)
    (of_decide_eq_true (by kernel_rfl)) (by unfold Func.isWrapper; first | (rw [if_pos (by decide +kernel)]; kernel_rfl) | (rw [if_neg (by decide +kernel)]; exact ⟨rfl, rfl⟩))
    (fun os started H enc _ => lifted os started H enc)
theorem proved : Rows.DutyNilSaid := over
end Go.Proofs.Ytbihanbnnhipjaa.dutyNil
namespace Go.Proofs.Ytbihanbnnhipjaa
/-- The row, under a short name, for the claim. -/
theorem dutyNil_holds : Rows.DutyNilSaid := dutyNil.proved
#print axioms dutyNil_holds
end Go.Proofs.Ytbihanbnnhipjaa
