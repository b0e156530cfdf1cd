/- One step of the abstract machine within a region. -/
import Derived.Test.YtbihanbnnhipjaaFxSound2
import Derived.LoopN
import Derived.Tactics
import Derived.Scope
namespace Go.Fx
open Go
set_option linter.unusedSimpArgs false
set_option linter.unusedVariables false

structure AOper where
  dst : Option Nat
  op : AOp
  /-- the slot that is asked, and what it must hold -/
  guard : Option (Nat × Bool)

abbrev CallF := FuncId → List Value → Mem → Option (Value × Mem)

def capsOf : Value → Option (FuncId × List Value)
  | .func (.func f) _ cap => some (f, cap.toList)
  | _ => none

def stepOp (call : CallF) (ts : List Value) (m : Mem) : AOp → Option (Value × Mem)
  | .call f xs => (avals ts xs).bind fun l => call f l m
  | .callv x xs => (aval ts x).bind fun v => (capsOf v).bind fun p => (avals ts xs).bind fun l => call p.1 (l ++ p.2) m
  | o => o.run ts m

def putT (ts : List Value) (dst : Option Nat) (v : Value) : List Value :=
  match dst with
  | some d => ts.set d v
  | none => ts

def wantedA (ts : List Value) (g : Option (Nat × Bool)) : Bool :=
  match g with
  | none => true
  | some (t, want) => match ts[t]? with
    | some (.bool b) => b == want
    | _ => false

def runOps (call : CallF) : List AOper → List Value → Mem → Option (List Value × Mem)
  | [], ts, m => some (ts, m)
  | o :: r, ts, m =>
    if wantedA ts o.guard then (stepOp call ts m o.op).bind fun p => runOps call r (putT ts o.dst p.1) p.2
    else runOps call r (putT ts o.dst undef) m

/- reading the program's text -/
/-- What is not taken stops the run. -/
def resT (P : Program) (o : Oper) : AOp := (res P o).getD .stop

def compOps (P : Program) (ops : Array Oper) : List Oper → Option (List AOper)
  | [] => some []
  | o :: r => (compOps P ops r).bind fun l =>
    match o.guard with
    | none => some (⟨o.dst, resT P o, none⟩ :: l)
    | some (j, want) => ((ops[j]?).bind (·.dst)).map fun t => ⟨o.dst, resT P o, some (t, want)⟩ :: l

/- soundness -/
/-- What a call comes to. -/
def Calls1 (P : Program) (φ : Ren) (m : Mem) (w : World) (f : FuncId) (args : Array Value) (v : Value) (m' : Mem) : Prop :=
  Calls P f args w fun e w' => ∃ V φ', e = .returned V ∧ VR φ' v V ∧ Inv φ' m' w' ∧ Frm φ m w φ' m' w'

def CallOk (P : Program) (call : CallF) : Prop :=
  ∀ f args m v m', call f args m = some (v, m') → ∀ φ w (ARGS : Array Value), Inv φ m w → VRs φ args ARGS.toList → Calls1 P φ m w f ARGS v m'

theorem run_call {P : Program} {w : World} {ρ : Operand → Value} {x : Operand} {f : FuncId} {cap : Array Value} {xs : Array Operand} {tys : Array TypeId} {ty : TypeId} {d : Option Tmp} {pos : String} {af : Array Edge} {g : Option (Nat × Bool)}
    (hx : ρ x = .func (.func f) #[] cap) (hf : goodFn P f = true) :
    (execOp ρ ⟨d, .call { callee := .value x, args := xs, argTypes := tys }, ty, pos, af, g⟩).run P w = .ok (.enter f (xs.map ρ ++ cap)) w := by
  unfold goodFn at hf
  split at hf
  · rename_i fn hfn
    simp only [Bool.and_eq_true, bne_iff_ne, ne_eq] at hf
    obtain ⟨c, hb⟩ := Option.isSome_iff_exists.1 hf.2
    simp [execOp, resolve, Deferred.ofValue, hx, invoke, callFunc, hfn, hf.1, hb]
  · cases hf

/-- A value's operation, put where it belongs. -/
theorem upon_of_comes {P : Program} {o : Oper} {φ : Ren} {m m' : Mem} {w : World} {a : Act} {v : Value} {next : Act → World → Prop} {Q : Exit → Act → World → Prop} (h : Comes1 φ m w ((execOp a.eval o).run P w) v m')
    (hn : ∀ V w' φ', VR φ' v V → Inv φ' m' w' → Frm φ m w φ' m' w' → next (a.put o.dst V) w') : o.wp P a w next Q := by
  obtain ⟨V, w', φ', hr, hv, hi, hf⟩ := h
  unfold Oper.wp
  rcases hr with hr | ⟨hr, rfl⟩
  · rw [hr]; exact hn V w' φ' hv hi hf
  · rw [hr]; exact hn undef w' φ' hv hi hf

def AOp.isCall : AOp → Bool
  | .call _ _ | .callv _ _ => true
  | _ => false

theorem stepOp_other (call : CallF) (ts : List Value) (m : Mem) {ao : AOp} (h : ao.isCall = false) : stepOp call ts m ao = ao.run ts m := by
  cases ao <;> first | rfl | simp [AOp.isCall] at h

theorem resEq_isCall {P : Program} {neg : Bool} {t : TypeId} {x y : Operand} {ao : AOp} (hr : resEq P neg t x y = some ao) : ao.isCall = false := by
  unfold resEq at hr
  split at hr
  · cases hr; rfl
  · cases hr; rfl
  · cases hr; rfl
  · split at hr
    · split at hr
      · cases hr; rfl
      · cases hr
    · cases hr
  · simp only [Option.map_eq_some_iff] at hr
    obtain ⟨k, hk, rfl⟩ := hr
    rfl

theorem resBuiltin_isCall {P : Program} {b : Builtin} {ts : List TypeId} {xs : List Operand} {ao : AOp} (hr : resBuiltin P b ts xs = some ao) : ao.isCall = false := by
  unfold resBuiltin at hr
  split at hr
  · split at hr
    · cases hr; rfl
    · cases hr; rfl
    · cases hr
  · simp only [Option.bind_eq_some_iff] at hr
    obtain ⟨_, _, _, _, _, _, hr⟩ := hr
    split at hr
    · cases hr; rfl
    · cases hr
  · simp only [Option.bind_eq_some_iff, Option.map_eq_some_iff] at hr
    obtain ⟨_, _, _, _, rfl⟩ := hr
    rfl
  · cases hr; rfl
  · cases hr; rfl
  · simp only [Option.bind_eq_some_iff] at hr
    obtain ⟨_, _, _, _, _, _, hr⟩ := hr
    split at hr
    · cases hr; rfl
    · cases hr
  · cases hr

theorem res_isCall {P : Program} {o : Oper} {ao : AOp} (hr : res P o = some ao) : ao.isCall = false ∨
    (∃ (x : Operand) (args : Array Operand) (tys : Array TypeId), o.op = .call { callee := .value x, args, argTypes := tys } ∧ ((∃ f, x = .func f ∧ ao = .call f args.toList ∧ goodFn P f = true) ∨ ao = .callv x args.toList)) := by
  obtain ⟨d, op, ty, pos, af, g⟩ := o
  cases op
  case call c =>
    obtain ⟨callee, xs, tys⟩ := c
    cases callee with
    | builtin b => exact .inl (resBuiltin_isCall hr)
    | invoke x n => simp only [res] at hr; cases hr
    | value x =>
      right
      refine ⟨x, xs, tys, rfl, ?_⟩
      cases x with
      | func f =>
        simp only [res] at hr
        split at hr
        · rename_i hg; cases hr; exact .inl ⟨f, rfl, rfl, hg⟩
        · cases hr
      | _ => simp only [res] at hr; cases hr; exact .inr rfl
  case binOp op t x y ty2 =>
    left
    by_cases h1 : op = .eql
    · subst h1; exact resEq_isCall hr
    · by_cases h2 : op = .neq
      · subst h2; exact resEq_isCall hr
      · have hr' : some (AOp.arith op x y) = some ao := by
          cases op <;> simp at h1 h2 <;> exact hr
        cases hr'; rfl
  case makeFunc fn first captured =>
    left
    cases fn <;> simp only [res] at hr <;> try (cases hr; done)
    split at hr
    · cases hr; rfl
    · cases hr
  case makeSlice t n c =>
    left
    simp only [res, Option.bind_eq_some_iff] at hr
    obtain ⟨_, _, _, _, _, _, hr⟩ := hr
    split at hr
    · cases hr; rfl
    · cases hr
  case makeInterface t x =>
    left
    simp only [res, Option.bind_eq_some_iff] at hr
    obtain ⟨_, _, hr⟩ := hr
    split at hr
    · cases hr
    · cases hr; rfl
  case slice t x lo hi mx =>
    left
    cases mx with
    | some _ => simp only [res, Option.bind_eq_some_iff, Option.map_eq_some_iff] at hr; obtain ⟨_, _, _, _, rfl⟩ := hr; rfl
    | none =>
      simp only [res] at hr
      split at hr
      · cases hr; rfl
      · simp only [Option.map_eq_some_iff] at hr; obtain ⟨_, _, rfl⟩ := hr; rfl
      · simp only [Option.map_eq_some_iff] at hr; obtain ⟨_, _, rfl⟩ := hr; rfl
      · cases hr
  case load t x =>
    left
    simp only [res, Option.bind_eq_some_iff] at hr
    obtain ⟨ag, _, hr⟩ := hr
    split at hr
    · simp only [Option.map_eq_some_iff] at hr; obtain ⟨_, _, rfl⟩ := hr; rfl
    · cases hr; rfl
  case buildSlice t len ps =>
    left
    simp only [res, Option.bind_eq_some_iff] at hr
    obtain ⟨_, _, _, _, _, _, hr⟩ := hr
    split at hr
    · simp only [Option.map_eq_some_iff] at hr; obtain ⟨_, _, rfl⟩ := hr; rfl
    · cases hr
  case fieldAddr t x k =>
    left
    simp only [res, Option.bind_eq_some_iff] at hr
    obtain ⟨_, _, _, _, _, _, hr⟩ := hr
    split at hr
    · cases hr; rfl
    · cases hr
  case convert s d x =>
    left
    simp only [res] at hr
    split at hr
    · cases hr; rfl
    · cases hr
    · split at hr
      · cases hr; rfl
      · cases hr
    · cases hr
  case indexAddr t x i =>
    left
    simp only [res] at hr
    split at hr
    · simp only [Option.map_eq_some_iff] at hr; obtain ⟨_, _, rfl⟩ := hr; rfl
    · simp only [Option.bind_eq_some_iff, Option.map_eq_some_iff] at hr; obtain ⟨_, _, _, _, rfl⟩ := hr; rfl
  case index t x i =>
    left
    simp only [res] at hr
    split at hr
    · cases hr; rfl
    · simp only [Option.bind_eq_some_iff, Option.map_eq_some_iff] at hr; obtain ⟨_, _, _, _, rfl⟩ := hr; rfl
    · cases hr
  all_goals (left; simp only [res, Option.bind_eq_some_iff, Option.map_eq_some_iff] at hr; first
    | (cases hr; done)
    | (cases hr; rfl)
    | (obtain ⟨_, _, rfl⟩ := hr; rfl)
    | (obtain ⟨_, _, _, _, rfl⟩ := hr; rfl)
    | (obtain ⟨_, _, _, _, _, _, rfl⟩ := hr; rfl)
    | (obtain ⟨_, _, _, _, _, _, _, _, rfl⟩ := hr; rfl))

theorem sound_step {P : Program} {call : CallF} (hc : CallOk P call) (hg : ∀ f args m r, call f args m = some r → goodFn P f = true) {o : Oper} {ao : AOp} (hr0 : resT P o = ao) {φ : Ren} {m m' : Mem} {w : World} (hi : Inv φ m w) {ts : List Value} {a : Act}
    (ht : VRs φ ts a.tmps.toList) {v : Value} (h : stepOp call ts m ao = some (v, m')) {next : Act → World → Prop} {Q : Exit → Act → World → Prop}
    (hn : ∀ V w' φ', VR φ' v V → Inv φ' m' w' → Frm φ m w φ' m' w' → next (a.put o.dst V) w') : o.wp P a w next Q := by
  have hr : res P o = some ao := by
    unfold resT at hr0
    cases hres : res P o with
    | none => rw [hres] at hr0; simp only [Option.getD_none] at hr0; subst hr0; simp [stepOp, AOp.run] at h
    | some x => rw [hres] at hr0; simp only [Option.getD_some] at hr0; rw [hr0]
  rcases res_isCall hr with hcl | ⟨x, args, tys, ho, hcase⟩
  · rw [stepOp_other call ts m hcl] at h
    exact upon_of_comes (res_sound hr hi ht h) hn
  · obtain ⟨d, op, ty, pos, af, g⟩ := o
    simp only at ho
    subst ho
    have fin : ∀ {f : FuncId} {cap : Array Value} {capA : List Value} {l : List Value}, a.eval x = .func (.func f) #[] cap → VRs φ capA cap.toList →
        avals ts args.toList = some l → call f (l ++ capA) m = some (v, m') → Oper.wp P ⟨d, .call { callee := .value x, args, argTypes := tys }, ty, pos, af, g⟩ a w next Q := by
      intro f cap capA l hx hcap hl hcall
      unfold Oper.wp
      rw [run_call hx (hg _ _ _ _ hcall)]
      rw [Oper.upon_enter]
      have := hc f _ m v m' hcall φ w (args.map a.eval ++ cap) hi (by
        have := (avals_ok ht hl).append hcap
        simpa using this)
      refine this.mono ?_
      rintro e w' ⟨V, φ', rfl, hv, hi', hf'⟩
      exact hn V w' φ' hv hi' hf'
    rcases hcase with ⟨f, rfl, rfl, _⟩ | rfl
    · simp only [stepOp, Option.bind_eq_some_iff] at h
      obtain ⟨l, hl, h⟩ := h
      exact fin (cap := #[]) (capA := []) rfl (VRs.nil φ) hl (by simpa using h)
    · simp only [stepOp, Option.bind_eq_some_iff] at h
      obtain ⟨u, hu, ⟨f, cap⟩, hcap, l, hl, h⟩ := h
      have hv := aval_ok ht hu
      generalize hx : a.eval x = X at hv
      unfold capsOf at hcap
      split at hcap
      · cases hcap
        cases hv with
        | func _ xs' ys h1 h2 => exact fin hx (VRs.of_array h1 h2) hl h
      · cases hcap

theorem put_VRs {φ : Ren} {ts : List Value} {a : Act} (ht : VRs φ ts a.tmps.toList) (d : Option Nat) {v V : Value} (hv : VR φ v V) : VRs φ (putT ts d v) (a.put d V).tmps.toList := by
  cases d with
  | none => exact ht
  | some d => simpa [putT, Act.put] using ht.set hv d

theorem put_defers (a : Act) (d : Option Nat) (v : Value) : (a.put d v).defers = a.defers := by cases d <;> rfl

theorem VR.bool_iff {φ : Ren} {v V : Value} (h : VR φ v V) (b : Bool) : V = .bool b ↔ v = .bool b := by
  cases h <;> simp

theorem wanted_ok {φ : Ren} {ts : List Value} {a : Act} (ht : VRs φ ts a.tmps.toList) {ops : Array Oper} {o : Oper} {g : Option (Nat × Bool)}
    (hg : match o.guard with | none => g = none | some (j, want) => ∃ t, (ops[j]?).bind (·.dst) = some t ∧ g = some (t, want)) : Region.wanted o (yielded ops a.tmps) = wantedA ts g := by
  unfold Region.wanted
  split at hg
  · rename_i h0
    rw [h0]; subst hg; rfl
  · rename_i j want h0
    obtain ⟨t, h1, rfl⟩ := hg
    rw [h0]
    simp only [yielded, h1, Option.bind_some, wantedA]
    cases e : ts[t]? with
    | none =>
      have : a.tmps[t]? = none := by
        rw [Array.getElem?_eq_none_iff]
        rw [List.getElem?_eq_none_iff] at e
        have := ht.1; simp at this; omega
      rw [this]; rfl
    | some u =>
      obtain ⟨V, hV, r⟩ := ht.get e
      have hV' : a.tmps[t]? = some V := by simpa using hV
      rw [hV']
      cases r <;> simp
      all_goals (rename_i b; cases b <;> cases want <;> rfl)

/-- The state behind a piece of work held against the machine's. -/
def St (φ : Ren) (m : Mem) (w : World) (a : Act) (ts' : List Value) (m' : Mem) (a' : Act) (w' : World) : Prop :=
  ∃ φ', VRs φ' ts' a'.tmps.toList ∧ Inv φ' m' w' ∧ Frm φ m w φ' m' w' ∧ a'.defers = a.defers

end Go.Fx
