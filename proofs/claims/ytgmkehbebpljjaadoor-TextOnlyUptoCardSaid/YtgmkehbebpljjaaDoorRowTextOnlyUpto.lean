/- The law TextOnly holds where what it is handed is of the given bulk: whatever it is handed, the call returns true, and each argument reads behind the call as it read before; its card. Conditions: those of the given row alone. -/
import Derived.Test.YtgmkehbebpljjaaDoorCards
import Derived.Test.YtgmkehbebpljjaaDoorTie
import Derived.Test.YtgmkehbebpljjaaDoorTextS
import Derived.WalkKit
import Derived.ProofKit
import Derived.OpenShut
import Derived.ShutString
import Derived.ChangeOld
import Derived.Below
import Derived.Carry
import Derived.SizedLaws
import Derived.Deep.DeepHandedRow
import Derived.Deep.DeepWitnessRowRef
import Derived.Lay
import Derived.MakeChecks
namespace Go.Proofs.YtgmkehbebpljjaaDoor.textOnly
open Go.ChangeShapes Go.WideShapes Go.ChangeAt Go.RowKit
open Go.ChangeMaps (open_string shut_string)
set_option linter.unusedVariables false
set_option linter.unusedSimpArgs false
theorem own : ownKnob Tryd.prog.godebug = none := by kernel_rfl
theorem laidOut : laidOutB Tryd.prog = true := by kernel_rfl
set_option maxRecDepth 100000 in
open Go.Fx Go.Fx.Tryd in
theorem law (m : Mem) (args : List Value) (hro : AllRo m) (hsub : (globMem Go.Fx.Tryd.gs).sub m) (hlen : args.length = [9].length) (hwt : ∀ (i : Nat) t (a : Value), [9][i]? = some t → args[i]? = some a → WTB Tryd.prog Go.Fx.Tryd.smallB m 2 t a.cells.toList ∧ (aggT Tryd.prog t = some false → ∀ xs, a ≠ .agg xs)) :
    ∃ m', Go.Fx.Call Go.Fx.Tryd.S Go.Fx.Tryd.tab 4 args m = some (Value.bool true, m') := by
  match args, hlen with
  | [v], _ =>
    obtain ⟨hv, hna⟩ := hwt 0 9 v rfl rfl
    obtain ⟨s, hs, hsz⟩ := WT.string (by kernel_rfl) hv
    obtain rfl := one_of (hna (by kernel_rfl)) hs
    have hl : s.data.toList.length ≤ 1048576 := by
      have h1 : s.data.toList.length = s.size := Array.length_toList
      have h2 := smallB_eq
      omega
    obtain ⟨r, m', e, hr⟩ := onlyLaw hl (globs_of hsub)
    subst hr
    rw [← str_eta] at e
    exact ⟨m', e⟩
set_option maxRecDepth 100000 in
theorem contract (H : Type) (enc : TypeId × Value → H) (W : World) (base : Nat) (args : Array Value) (ds gs : List (DataW H)) (before : List MemPlace)
    (hval0 : ∀ (j : Nat) t v, Tryd.f4.params[j]? = some t → args[j]? = some v → Value.okWide Tryd.prog W .any base t v)
    (hW : DataW.Whole enc Tryd.prog Tryd.f4.params.toList Rows.textOnlySpec.vars false W args.toList ds gs before) (hk : Rows.uptoSmall H (ds ++ gs) = true) (hL : laidMetH Tryd.prog Rows.textOnlyUptoRow.laid W) (hsh : W.ShapedOpen Tryd.prog) :
    Calls Tryd.prog 4 args W fun e W' => ∃ v, e = .returned v ∧ Rows.textOnlySpec.post enc Tryd.prog Tryd.f4 false true false false W args v W' := by
  have hval : ∀ (j : Nat) t v, Tryd.f4.params[j]? = some t → args[j]? = some v → Value.okWide Tryd.prog W .any base t v := hval0
  have hW' := hW
  obtain ⟨p, q, hA0, hV, rfl, hfz, hnd⟩ := hW
  have hA : DataW.TrodAll enc Tryd.prog W 0 (fun _ => true) true Tryd.f4.params.toList args.toList ds p := hA0
  rw [Tryd.params4] at hA hval
  obtain ⟨rfl, rfl⟩ := trodVars_none hV
  rw [List.append_nil] at hk
  have hbulk := Go.Fx.Tryd.small_le hk
  have hcalls := Go.Fx.law_calls_at (f := 4) (by decide) (B := Go.Fx.Tryd.smallB) Go.Fx.Tryd.gs (Go.Fx.Tryd.globsOk hL hsh) Go.Fx.Tryd.Sok Go.Fx.Tryd.Sgood Go.Fx.Tryd.mixed Go.Fx.Tryd.tabOk Go.Fx.Tryd.tabGood (n := 2) hA
    (by
      intro j t d ht hd z hz
      obtain rfl : t = 9 := by simpa using List.mem_of_getElem? ht
      have h1 := Go.Fx.Tryd.w_le (K := 1) (by decide) 2 9 d (by kernel_rfl) z hz
      have h2 := Go.Fx.Tryd.bulk_part (List.mem_of_getElem? hd)
      have h3 := Go.Fx.Tryd.smallB_eq
      omega)
    (by intro t ht; simp only [List.mem_cons, List.not_mem_nil, or_false] at ht; subst ht; kernel_rfl)
    (fun i t v ht hv hag => Go.Fx.okWide_not_agg (hval i t v (by simpa using ht) (by simpa using hv)) hag) (fun m args hro hsub hlen hwt => law m args hro hsub hlen hwt)
  obtain ⟨v0, vs0, d0, ds0, p0, q0, hargs, rfl, rfl, h0, r0⟩ := trodAll_cons hA
  obtain ⟨rfl, rfl, rfl⟩ := trodAll_nil r0
  obtain rfl : args = #[v0] := by cases args; simp_all
  have lt0 : ∀ x ∈ p0, x.block < W.heap.size := by obtain ⟨m, hm⟩ := h0; exact DataW.trod_lt m _ _ _ hm
  refine hcalls.mono fun e W' ⟨he, bel⟩ => ?_
  subst he
  exact ⟨_, rfl, _, _, _, [], _, [], hW', trodAll_mk1 (shut_bool Tryd.underlying4 _), (trodAll_cons_mk (Below.trod laidOut (by kernel_rfl) (of_decide_eq_true (by kernel_rfl)) h0 bel lt0) trodAll_mk0), rfl, bel.frame _, fun h => by cases h⟩

theorem laid_met (os : Os) : laidMet Tryd.prog Rows.textOnlyUptoRow.laid ((World.laidAll Tryd.prog os Rows.textOnlyUptoRow.laid).forCall (fun _ _ => 0) ⟨#[], #[.string ⟨#[]⟩], []⟩).memory :=
  laidMet_laidAll #[.string ⟨#[]⟩] (by kernel_rfl) (by kernel_rfl)
theorem reads (os : Os) {H : Type} (enc : TypeId × Value → H) : ∃ places, DataW.whole enc Tryd.prog ((World.laidAll Tryd.prog os Rows.textOnlyUptoRow.laid).forCall (fun _ _ => 0) ⟨#[], #[.string ⟨#[]⟩], []⟩).memory Tryd.f4.params.toList Rows.textOnlySpec.vars false (#[.string ⟨#[]⟩] : Array Value).toList 8 = some ([.lit (.string [])], [], places) :=
  ⟨[], by kernel_rfl⟩
set_option maxRecDepth 100000 in
theorem lifted (os : Os) (started : os.Started) (H : Type) (enc : TypeId × Value → H) (F : Stop.Interp) :
    ReturnsInHanded {} Tryd.checked os 4 .any ((Rows.OpenSpec.upto Rows.textOnlySpec).preRow enc Tryd.prog Tryd.f4 Rows.textOnlyUptoRow.domain false Rows.textOnlyUptoRow.laid) (((Rows.OpenSpec.upto Rows.textOnlySpec).at F).post enc Tryd.prog Tryd.f4 false true false false) := by
  obtain ⟨places, hx⟩ := reads os enc
  refine returnsInHanded_of_row (C := Tryd.checked) (s := Rows.OpenSpec.upto Rows.textOnlySpec) own started (by kernel_rfl) Tryd.func4
    (witness_row_atRef (enc := enc) (C := Tryd.checked) false (World.laidAll Tryd.prog os Rows.textOnlyUptoRow.laid) #[.string ⟨#[]⟩] (World.laidAll_os _ _ _) (by kernel_rfl) (by kernel_rfl) (by kernel_rfl)
      (OpenSpec.preRow_of_cond 8 hx (by kernel_rfl) (fun k hk => by cases hk; kernel_rfl) (by kernel_rfl) (by rw [MakeChecks.laidMetH_plain _ _ _ (by kernel_rfl)]; exact laid_met os))) ?_
  intro W base args ds gs before hval hW _ hcond _ hL hsh _
  exact contract H enc W base args ds gs before hval hW (hcond _ rfl) hL hsh
theorem said : Rows.TextOnlyUptoSaid :=
  OpenClaim.holds_of_cond 4 Tryd.f4 rfl rfl rfl rfl rfl rfl rfl ⟨rfl, rfl, rfl, rfl, rfl⟩ rfl rfl rfl rfl rfl (by kernel_rfl) Tryd.func4 (by kernel_rfl)
    (of_decide_eq_true (by kernel_rfl)) (by unfold Func.isWrapper; first | (rw [if_pos (by decide +kernel)]; kernel_rfl) | (rw [if_neg (by decide +kernel)]; exact ⟨rfl, rfl⟩))
    (fun os started H enc _ F => by rw [OpenClaim.pre_eq_preRow]; exact lifted os started H enc F)
theorem plain (f : FuncId) (fn : Func) (hf : Tryd.pinned.checked.prog.funcNamed "factotum/factotumlaw14.TextOnly" = some f) (hfn : Tryd.pinned.checked.prog.funcs[f]? = some fn) :
    true = Tryd.pinned.checked.prog.looks [] ∧ ∀ (j : Nat) t, fn.params[j]? = some t → Tryd.pinned.checked.prog.wantsStandIn t = false := by
  obtain rfl : f = 4 := Option.some.inj ((show Tryd.prog.funcNamed "factotum/factotumlaw14.TextOnly" = some 4 by kernel_rfl).symm.trans hf) |>.symm
  obtain rfl : fn = Tryd.f4 := (Option.some.inj (Tryd.func4.symm.trans hfn)).symm
  refine ⟨by kernel_rfl, fun j t ht => ?_⟩
  rw [Tryd.params4] at ht
  obtain rfl : t = 9 := by simpa using Array.mem_of_getElem? ht
  exact (show Tryd.prog.wantsStandIn 9 = false by kernel_rfl)
theorem card : Rows.TextOnlyUptoCardSaid :=
  Claim7.holds_tied_plain_at .later [] _ _ _ _ said (fun _ h => by cases h) (by kernel_rfl) (fun _ h => by cases h) textOnlyUpto_row_tie rfl ⟨rfl, rfl⟩ (by kernel_rfl) rfl plain (by kernel_rfl)
end Go.Proofs.YtgmkehbebpljjaaDoor.textOnly
namespace Go.Proofs.YtgmkehbebpljjaaDoor
/-- The card, under a short name, for the claim. -/
theorem textOnlyUptoCard_holds : Rows.TextOnlyUptoCardSaid := textOnly.card
#print axioms textOnlyUptoCard_holds
end Go.Proofs.YtgmkehbebpljjaaDoor
