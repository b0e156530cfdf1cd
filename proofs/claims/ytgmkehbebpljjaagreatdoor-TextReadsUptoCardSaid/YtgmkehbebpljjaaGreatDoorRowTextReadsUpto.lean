/- The law TextReads holds where what it is handed is of the given bulk: whatever it is handed, the call returns true, and each argument reads behind the call as it read before; its card. Conditions: those of the given row alone. -/
import Derived.Test.YtgmkehbebpljjaaGreatDoorCards
import Derived.Test.YtgmkehbebpljjaaGreatDoorTie
import Derived.Test.YtgmkehbebpljjaaGreatDoorTextVZ
import Derived.WalkKit
import Derived.ProofKit
import Derived.OpenShut
import Derived.ShutString
import Derived.ChangeOld
import Derived.Below
import Derived.Carry
import Derived.SizedLaws
import Derived.Deep.DeepHandedRow
import Derived.Deep.DeepWitnessRowRef
import Derived.Lay
import Derived.MakeChecks
namespace Go.Proofs.YtgmkehbebpljjaaGreatDoor.textReads
open Go.ChangeShapes Go.WideShapes Go.ChangeAt Go.RowKit
open Go.ChangeMaps (open_string shut_string)
set_option linter.unusedVariables false
set_option linter.unusedSimpArgs false
theorem own : ownKnob Tryz.prog.godebug = none := by kernel_rfl
theorem laidOut : laidOutB Tryz.prog = true := by kernel_rfl
set_option maxRecDepth 100000 in
open Go.Fx Go.Fx.Tryz in
theorem law (m : Mem) (args : List Value) (hro : AllRo m) (hsub : (globMem Go.Fx.Tryz.gs).sub m) (hlen : args.length = [9].length) (hwt : ∀ (i : Nat) t (a : Value), [9][i]? = some t → args[i]? = some a → WTB Tryz.prog Go.Fx.Tryz.smallB m 2 t a.cells.toList ∧ (aggT Tryz.prog t = some false → ∀ xs, a ≠ .agg xs)) :
    ∃ m', Go.Fx.Call Go.Fx.Tryz.S Go.Fx.Tryz.tab 4 args m = some (Value.bool true, m') := by
  match args, hlen with
  | [v], _ =>
    obtain ⟨hv, hna⟩ := hwt 0 9 v rfl rfl
    obtain ⟨s, hs, hsz⟩ := WT.string (by kernel_rfl) hv
    obtain rfl := one_of (hna (by kernel_rfl)) hs
    have hl : s.data.toList.length ≤ 1048576 := by
      have h1 : s.data.toList.length = s.size := Array.length_toList
      have h2 := smallB_eq
      omega
    obtain ⟨r, m', e, hr⟩ := readsLaw hl (globs_of hsub)
    subst hr
    rw [← str_eta] at e
    exact ⟨m', e⟩
set_option maxRecDepth 100000 in
theorem contract (H : Type) (enc : TypeId × Value → H) (W : World) (base : Nat) (args : Array Value) (ds gs : List (DataW H)) (before : List MemPlace)
    (hval0 : ∀ (j : Nat) t v, Tryz.f4.params[j]? = some t → args[j]? = some v → Value.okWide Tryz.prog W .any base t v)
    (hW : DataW.Whole enc Tryz.prog Tryz.f4.params.toList Rows.textReadsSpec.vars false W args.toList ds gs before) (hk : Rows.uptoSmall H (ds ++ gs) = true) (hL : laidMetH Tryz.prog Rows.textReadsUptoRow.laid W) (hsh : W.ShapedOpen Tryz.prog) :
    Calls Tryz.prog 4 args W fun e W' => ∃ v, e = .returned v ∧ Rows.textReadsSpec.post enc Tryz.prog Tryz.f4 false true false false W args v W' := by
  have hval : ∀ (j : Nat) t v, Tryz.f4.params[j]? = some t → args[j]? = some v → Value.okWide Tryz.prog W .any base t v := hval0
  have hW' := hW
  obtain ⟨p, q, hA0, hV, rfl, hfz, hnd⟩ := hW
  have hA : DataW.TrodAll enc Tryz.prog W 0 (fun _ => true) true Tryz.f4.params.toList args.toList ds p := hA0
  rw [Tryz.params4] at hA hval
  obtain ⟨rfl, rfl⟩ := trodVars_none hV
  rw [List.append_nil] at hk
  have hbulk := Go.Fx.Tryz.small_le hk
  have hcalls := Go.Fx.law_calls_at (f := 4) (by decide) (B := Go.Fx.Tryz.smallB) Go.Fx.Tryz.gs (Go.Fx.Tryz.globsOk hL hsh) Go.Fx.Tryz.Sok Go.Fx.Tryz.Sgood Go.Fx.Tryz.mixed Go.Fx.Tryz.tabOk Go.Fx.Tryz.tabGood (n := 2) hA
    (by
      intro j t d ht hd z hz
      have ht := List.mem_of_getElem? ht
      simp only [List.mem_cons, List.not_mem_nil, or_false] at ht
      have hsl : Go.Fx.Tryz.slB Tryz.prog 1 2 t = true := by subst ht; kernel_rfl
      have h1 := Go.Fx.Tryz.w_le (K := 1) (by decide) 2 t d hsl z hz
      have h2 := Go.Fx.Tryz.bulk_part (List.mem_of_getElem? hd)
      have h3 := Go.Fx.Tryz.smallB_eq
      omega)
    (by intro t ht; simp only [List.mem_cons, List.not_mem_nil, or_false] at ht; subst ht; kernel_rfl)
    (fun i t v ht hv hag => Go.Fx.okWide_not_agg (hval i t v (by simpa using ht) (by simpa using hv)) hag) (fun m args hro hsub hlen hwt => law m args hro hsub hlen hwt)
  obtain ⟨v0, vs0, d0, ds0, p0, q0, hargs, rfl, rfl, h0, r0⟩ := trodAll_cons hA
  obtain ⟨rfl, rfl, rfl⟩ := trodAll_nil r0
  obtain rfl : args = #[v0] := by cases args; simp_all
  have lt0 : ∀ x ∈ p0, x.block < W.heap.size := by obtain ⟨m, hm⟩ := h0; exact DataW.trod_lt m _ _ _ hm
  refine hcalls.mono fun e W' ⟨he, bel⟩ => ?_
  subst he
  exact ⟨_, rfl, _, _, _, [], _, [], hW', trodAll_mk1 (shut_bool Tryz.underlying4 _), (trodAll_cons_mk (Below.trod laidOut (by kernel_rfl) (of_decide_eq_true (by kernel_rfl)) h0 bel lt0) trodAll_mk0), rfl, bel.frame _, fun h => by cases h⟩

theorem laid_met (os : Os) : laidMet Tryz.prog Rows.textReadsUptoRow.laid ((World.laidAll Tryz.prog os Rows.textReadsUptoRow.laid).forCall (fun _ _ => 0) ⟨#[], #[.string ⟨#[]⟩], []⟩).memory :=
  laidMet_laidAll #[.string ⟨#[]⟩] (by kernel_rfl) (by kernel_rfl)
theorem reads (os : Os) {H : Type} (enc : TypeId × Value → H) : ∃ places, DataW.whole enc Tryz.prog ((World.laidAll Tryz.prog os Rows.textReadsUptoRow.laid).forCall (fun _ _ => 0) ⟨#[], #[.string ⟨#[]⟩], []⟩).memory Tryz.f4.params.toList Rows.textReadsSpec.vars false (#[.string ⟨#[]⟩] : Array Value).toList 8 = some ([.lit (.string [])], [], places) :=
  ⟨[], by kernel_rfl⟩
set_option maxRecDepth 100000 in
theorem lifted (os : Os) (started : os.Started) (H : Type) (enc : TypeId × Value → H) (F : Stop.Interp) :
    ReturnsInHanded {} Tryz.checked os 4 .any ((Rows.OpenSpec.upto Rows.textReadsSpec).preRow enc Tryz.prog Tryz.f4 Rows.textReadsUptoRow.domain false Rows.textReadsUptoRow.laid) (((Rows.OpenSpec.upto Rows.textReadsSpec).at F).post enc Tryz.prog Tryz.f4 false true false false) := by
  obtain ⟨places, hx⟩ := reads os enc
  refine returnsInHanded_of_row (C := Tryz.checked) (s := Rows.OpenSpec.upto Rows.textReadsSpec) own started (by kernel_rfl) Tryz.func4
    (witness_row_atRef (enc := enc) (C := Tryz.checked) false (World.laidAll Tryz.prog os Rows.textReadsUptoRow.laid) #[.string ⟨#[]⟩] (World.laidAll_os _ _ _) (by kernel_rfl) (by kernel_rfl) (by kernel_rfl)
      (OpenSpec.preRow_of_cond 8 hx (by kernel_rfl) (fun k hk => by cases hk; kernel_rfl) (by kernel_rfl) (by rw [MakeChecks.laidMetH_plain _ _ _ (by kernel_rfl)]; exact laid_met os))) ?_
  intro W base args ds gs before hval hW _ hcond _ hL hsh _
  exact contract H enc W base args ds gs before hval hW (hcond _ rfl) hL hsh
theorem said : Rows.TextReadsUptoSaid :=
  OpenClaim.holds_of_cond 4 Tryz.f4 rfl rfl rfl rfl rfl rfl rfl ⟨rfl, rfl, rfl, rfl, rfl⟩ rfl rfl rfl rfl rfl (by kernel_rfl) Tryz.func4 (by kernel_rfl)
    (of_decide_eq_true (by kernel_rfl)) (by unfold Func.isWrapper; first | (rw [if_pos (by decide +kernel)]; kernel_rfl) | (rw [if_neg (by decide +kernel)]; exact ⟨rfl, rfl⟩))
    (fun os started H enc _ F => by rw [OpenClaim.pre_eq_preRow]; exact lifted os started H enc F)
theorem plain (f : FuncId) (fn : Func) (hf : Tryz.pinned.checked.prog.funcNamed "factotum/factotumlaw14.TextReads" = some f) (hfn : Tryz.pinned.checked.prog.funcs[f]? = some fn) :
    true = Tryz.pinned.checked.prog.looks [] ∧ ∀ (j : Nat) t, fn.params[j]? = some t → Tryz.pinned.checked.prog.wantsStandIn t = false := by
  obtain rfl : f = 4 := Option.some.inj ((show Tryz.prog.funcNamed "factotum/factotumlaw14.TextReads" = some 4 by kernel_rfl).symm.trans hf) |>.symm
  obtain rfl : fn = Tryz.f4 := (Option.some.inj (Tryz.func4.symm.trans hfn)).symm
  refine ⟨by kernel_rfl, fun j t ht => ?_⟩
  rw [Tryz.params4] at ht
  have ht := Array.mem_of_getElem? ht
  simp only [List.mem_toArray, List.mem_cons, List.not_mem_nil, or_false] at ht
  have hs : Tryz.prog.wantsStandIn t = false := by subst ht; kernel_rfl
  exact hs
theorem card : Rows.TextReadsUptoCardSaid :=
  Claim7.holds_tied_plain_at .later [] _ _ _ _ said (fun _ h => by cases h) (by kernel_rfl) (fun _ h => by cases h) textReadsUpto_row_tie rfl ⟨rfl, rfl⟩ (by kernel_rfl) rfl plain (by kernel_rfl)
end Go.Proofs.YtgmkehbebpljjaaGreatDoor.textReads
namespace Go.Proofs.YtgmkehbebpljjaaGreatDoor
/-- The card, under a short name, for the claim. -/
theorem textReadsUptoCard_holds : Rows.TextReadsUptoCardSaid := textReads.card
#print axioms textReadsUptoCard_holds
end Go.Proofs.YtgmkehbebpljjaaGreatDoor
