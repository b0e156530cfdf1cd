/- The law DumpWrites holds: whatever it is handed, the call returns true, and each argument reads behind the call as it read before. Conditions: those of the given row alone. -/
import Derived.Test.YtbhdhhgpfanmcaaGreatDoorRows
import Derived.Test.YtbhdhhgpfanmcaaGreatDoorQw25
import Derived.WalkKit
import Derived.ProofKit
import Derived.OpenShut
import Derived.ShutString
import Derived.ChangeOld
import Derived.Below
import Derived.Carry
import Derived.SizedLaws
import Derived.Deep.DeepHandedRow
import Derived.Deep.DeepWitnessRowRef
import Derived.Lay
import Derived.MakeChecks
namespace Go.Proofs.YtbhdhhgpfanmcaaGreatDoor.dumpWrites
open Go.ChangeShapes Go.WideShapes Go.ChangeAt Go.RowKit
open Go.ChangeMaps (open_string shut_string)
set_option linter.unusedVariables false
set_option linter.unusedSimpArgs false
theorem own : ownKnob Tryz.prog.godebug = none := by kernel_rfl
theorem laidOut : laidOutB Tryz.prog = true := by kernel_rfl
set_option maxRecDepth 100000 in
open Go.Fx Go.Fx.Tryz in
theorem law (m : Mem) (args : List Value) (hro : AllRo m) (hlen : args.length = [48].length) (hwt : ∀ (i : Nat) t (a : Value), [48][i]? = some t → args[i]? = some a → WT Tryz.prog m 4 t a.cells.toList ∧ (aggT Tryz.prog t = some false → ∀ xs, a ≠ .agg xs)) :
    ∃ m', Go.Fx.Call Go.Fx.Tryz.S Go.Fx.Tryz.tab 6 args m = some (Value.bool true, m') := by
  match args, hlen with
  | [w], _ =>
    obtain ⟨hw, hwn⟩ := hwt 0 48 w rfl rfl
    obtain ⟨L, h1, h2, h3⟩ := pas_of (Nat.le_refl 140737488351232) hw hwn
    obtain ⟨r, m', e, hr⟩ := writesLaw h1 h2 h3
    subst hr
    exact ⟨m', e⟩
set_option maxRecDepth 100000 in
theorem contract (H : Type) (enc : TypeId × Value → H) (W : World) (base : Nat) (args : Array Value) (ds gs : List (DataW H)) (before : List MemPlace)
    (hval0 : ∀ (j : Nat) t v, Tryz.f6.params[j]? = some t → args[j]? = some v → Value.okWide Tryz.prog W .any base t v)
    (hW : DataW.Whole enc Tryz.prog Tryz.f6.params.toList Rows.dumpWritesSpec.vars false W args.toList ds gs before) (hsz0 : (DataW.weightsEach Tryz.prog (Tryz.f6.params.toList ++ Rows.dumpWritesSpec.plain.varTypes Tryz.prog) (ds ++ gs)).all (· ≤ reachBytes) = true) :
    Calls Tryz.prog 6 args W fun e W' => ∃ v, e = .returned v ∧ Rows.dumpWritesSpec.post enc Tryz.prog Tryz.f6 false true false false W args v W' := by
  have hval : ∀ (j : Nat) t v, Tryz.f6.params[j]? = some t → args[j]? = some v → Value.okWide Tryz.prog W .any base t v := hval0
  have hW' := hW
  obtain ⟨p, q, hA0, hV, rfl, hfz, hnd⟩ := hW
  have hA : DataW.TrodAll enc Tryz.prog W 0 (fun _ => true) true Tryz.f6.params.toList args.toList ds p := hA0
  rw [Tryz.params6] at hA hval hsz0
  obtain ⟨rfl, rfl⟩ := trodVars_none hV
  have hcalls := Go.Fx.law_calls (f := 6) (by decide) Go.Fx.Tryz.Sok Go.Fx.Tryz.Sgood Go.Fx.Tryz.mixed Go.Fx.Tryz.tabOk Go.Fx.Tryz.tabGood (n := 4) hA (Go.Fx.sized_each hsz0)
    (by intro t ht; simp only [List.mem_cons, List.not_mem_nil, or_false] at ht; subst ht; kernel_rfl)
    (fun i t v ht hv hag => Go.Fx.okWide_not_agg (hval i t v (by simpa using ht) (by simpa using hv)) hag) (fun m args hro hlen hwt => law m args hro hlen hwt)
  obtain ⟨v0, vs0, d0, ds0, p0, q0, hargs, rfl, rfl, h0, r0⟩ := trodAll_cons hA
  obtain ⟨rfl, rfl, rfl⟩ := trodAll_nil r0
  obtain rfl : args = #[v0] := by cases args; simp_all
  have lt0 : ∀ x ∈ p0, x.block < W.heap.size := by obtain ⟨m, hm⟩ := h0; exact DataW.trod_lt m _ _ _ hm
  refine hcalls.mono fun e W' ⟨he, bel⟩ => ?_
  subst he
  exact ⟨_, rfl, _, _, _, [], _, [], hW', trodAll_mk1 (shut_bool Tryz.underlying4 _), (trodAll_cons_mk (Below.trod laidOut (by kernel_rfl) (of_decide_eq_true (by kernel_rfl)) h0 bel lt0) trodAll_mk0), rfl, bel.frame _, fun h => by cases h⟩

theorem laid_met (os : Os) : laidMet Tryz.prog Rows.dumpWritesRow.laid ((World.laidAll Tryz.prog os Rows.dumpWritesRow.laid).forCall (fun _ _ => 0) ⟨#[], #[.slice none 0 0], []⟩).memory :=
  laidMet_laidAll #[.slice none 0 0] (by kernel_rfl) (by kernel_rfl)
theorem reads (os : Os) {H : Type} (enc : TypeId × Value → H) : ∃ places, DataW.whole enc Tryz.prog ((World.laidAll Tryz.prog os Rows.dumpWritesRow.laid).forCall (fun _ _ => 0) ⟨#[], #[.slice none 0 0], []⟩).memory Tryz.f6.params.toList Rows.dumpWritesSpec.vars false (#[.slice none 0 0] : Array Value).toList 8 = some ([.nil], [], places) :=
  ⟨[], by kernel_rfl⟩
set_option maxRecDepth 100000 in
theorem lifted (os : Os) (started : os.Started) (H : Type) (enc : TypeId × Value → H) (F : Stop.Interp) :
    ReturnsInHanded {} Tryz.checked os 6 .any ((OpenSpec.ofChange Rows.dumpWritesSpec).preRow enc Tryz.prog Tryz.f6 Rows.dumpWritesRow.domain false Rows.dumpWritesRow.laid) (((OpenSpec.ofChange Rows.dumpWritesSpec).at F).post enc Tryz.prog Tryz.f6 false true false false) := by
  obtain ⟨places, hx⟩ := reads os enc
  refine returnsInHanded_of_row (C := Tryz.checked) (s := OpenSpec.ofChange Rows.dumpWritesSpec) own started (by kernel_rfl) Tryz.func6
    (witness_row_atRef (enc := enc) (C := Tryz.checked) false (World.laidAll Tryz.prog os Rows.dumpWritesRow.laid) #[.slice none 0 0] (World.laidAll_os _ _ _) (by kernel_rfl) (by kernel_rfl) (by kernel_rfl)
      (OpenSpec.preRow_of_cond 8 hx (by kernel_rfl) (fun k hk => by cases hk) (by kernel_rfl) (by rw [MakeChecks.laidMetH_plain _ _ _ (by kernel_rfl)]; exact laid_met os))) ?_
  intro W base args ds gs before hval hW _ _ hsz _ _ _
  exact contract H enc W base args ds gs before hval hW hsz
end Go.Proofs.YtbhdhhgpfanmcaaGreatDoor.dumpWrites
