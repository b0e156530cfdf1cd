/- One step of the abstract machine within a region. -/
import Derived.Test.YtnngjdfadfblmaaGreatDoorFxSound2
import Derived.LoopNIn
import Derived.TacticsIn
import Derived.OrdersIn
import Derived.RangeFuncSeq
import Derived.Tactics
import Derived.Scope
namespace Go.Fx
open Go
set_option linter.unusedSimpArgs false
set_option linter.unusedVariables false

structure AOper where
  dst : Option Nat
  op : AOp
  /-- the slot that is asked, and what it must hold -/
  guard : Option (Nat × Bool)

abbrev CallF := FuncId → List Value → Mem → Option (Value × Mem)

def capsOf : Value → Option (FuncId × List Value × List Value)
  | .func (.func f) first cap => bif Nat.blt f yBase then some (f, first.toList, cap.toList) else none
  | .func (.yield N) _ _ => some (yBase + N, [], [])
  | _ => none

def stepOp (call : CallF) (ts : List Value) (m : Mem) : AOp → Option (Value × Mem)
  | .call f xs => (avals ts xs).bind fun l => call f l m
  | .callv x xs => (aval ts x).bind fun v => (capsOf v).bind fun p => (avals ts xs).bind fun l => call p.1 (p.2.1 ++ (l ++ p.2.2)) m
  | o => o.run ts m

def putT (ts : List Value) (dst : Option Nat) (v : Value) : List Value :=
  match dst with
  | some d => ts.set d v
  | none => ts

def wantedA (ts : List Value) (g : Option (Nat × Bool)) : Bool :=
  match g with
  | none => true
  | some (t, want) => match ts[t]? with
    | some (.bool b) => b == want
    | _ => false

def runOps (call : CallF) : List AOper → List Value → Mem → Option (List Value × Mem)
  | [], ts, m => some (ts, m)
  | o :: r, ts, m =>
    if wantedA ts o.guard then (stepOp call ts m o.op).bind fun p => runOps call r (putT ts o.dst p.1) p.2
    else runOps call r (putT ts o.dst undef) m

/- reading the program's text -/
/-- What is not taken stops the run. -/
def resT (P : Program) (o : Oper) : AOp := (res P o).getD .stop

def compOps (P : Program) (ops : Array Oper) : List Oper → Option (List AOper)
  | [] => some []
  | o :: r => (compOps P ops r).bind fun l =>
    match o.guard with
    | none => some (⟨o.dst, resT P o, none⟩ :: l)
    | some (j, want) => ((ops[j]?).bind (·.dst)).map fun t => ⟨o.dst, resT P o, some (t, want)⟩ :: l

/- soundness -/
/-- The fence of a frame: a plain one, or a round's of a range over a function. -/
def rf (ro : Option Nat) : Fence := { Fence.wide with round := ro }
theorem rf_none : rf none = Fence.wide := rfl
theorem rf_depth (ro : Option Nat) (k : Nat) : (rf ro).depth.isSome = true → 1 ≤ k := fun h => (by cases h)
theorem rf_calls {ro : Option Nat} {n : Nat} {P : Program} {f : FuncId} {args : Array Value} {w : World} {R : Ending → World → Prop} : CallsIn (rf ro) n P f args w R ↔ Calls P f args w R :=
  Iff.trans (show CallsIn (rf ro) n P f args w R ↔ CallsIn Fence.wide n P f args w R from Iff.rfl) callsIn_wide

/-- What a call comes to. -/
def Calls1 (P : Program) (φ : Ren) (m : Mem) (w : World) (f : FuncId) (args : Array Value) (v : Value) (m' : Mem) : Prop :=
  Calls P f args w fun e w' => ∃ V φ', e = .returned V ∧ VR φ' v V ∧ Inv φ' m' w' ∧ Frm φ m w φ' m' w'

/-- What a call of a round comes to. -/
def Yield1 (P : Program) (φ : Ren) (m : Mem) (w : World) (N : Nat) (args : Array Value) (v : Value) (m' : Mem) : Prop :=
  ∃ l b, φ N = some l ∧ v = .bool b ∧ YieldAt (rf none) 0 P l.blk args w fun e w' => e = .returned (.bool b) ∧ ∃ φ', Inv φ' m' w' ∧ Frm φ m w φ' m' w'

structure CallOk (P : Program) (call : CallF) : Prop where
  fn : ∀ f args m v m', f < yBase → call f args m = some (v, m') → ∀ φ w (ARGS : Array Value), Inv φ m w → VRs φ args ARGS.toList → Calls1 P φ m w f ARGS v m'
  yl : ∀ N args m v m', call (yBase + N) args m = some (v, m') → ∀ φ w (ARGS : Array Value), Inv φ m w → VRs φ args ARGS.toList → Yield1 P φ m w N ARGS v m'

theorem run_call {P : Program} {w : World} {ρ : Operand → Value} {x : Operand} {f : FuncId} {fst cap : Array Value} {xs : Array Operand} {tys : Array TypeId} {ty : TypeId} {d : Option Tmp} {pos : String} {af : Array Edge} {g : Option (Nat × Bool)}
    (hx : ρ x = .func (.func f) fst cap) (hf : goodFn P f = true) :
    (execOp ρ ⟨d, .call { callee := .value x, args := xs, argTypes := tys }, ty, pos, af, g⟩).run P w = .ok (.enter f (fst ++ xs.map ρ ++ cap)) w := by
  unfold goodFn at hf
  split at hf
  · rename_i fn hfn
    simp only [Bool.and_eq_true, bne_iff_ne, ne_eq] at hf
    obtain ⟨c, hb⟩ := Option.isSome_iff_exists.1 hf.2
    simp [execOp, resolve, Deferred.ofValue, hx, invoke, callFunc, hfn, hf.1.2, hb]
  · cases hf

theorem goodFn_lt {P : Program} {f : FuncId} (h : goodFn P f = true) : f < yBase := by
  unfold goodFn at h
  split at h
  · simp only [Bool.and_eq_true] at h
    simpa using h.1.1
  · cases h

theorem run_yieldcall {P : Program} {w w' : World} {ρ : Operand → Value} {x : Operand} {N : Nat} {xs : Array Operand} {tys : Array TypeId} {ty : TypeId} {d : Option Tmp} {pos : String} {af : Array Edge} {g : Option (Nat × Bool)} {r : Next}
    (hx : ρ x = .func (.yield N) #[] #[]) (hy : (Instr.yield N (xs.map ρ)).run P w = .ok r w') :
    (execOp ρ ⟨d, .call { callee := .value x, args := xs, argTypes := tys }, ty, pos, af, g⟩).run P w = .ok r w' := by
  simp [execOp, resolve, Deferred.ofValue, hx, invoke, hy]

/-- A value's operation, put where it belongs. -/
theorem upon_of_comes {ro : Option Nat} {P : Program} {o : Oper} (hnd : ∀ c, o.op ≠ .defer c) {φ : Ren} {m m' : Mem} {w : World} {a : Act} {v : Value} {next : Act → World → Prop} {Q : Exit → Act → World → Prop} (h : Comes1 φ m w ((execOp a.eval o).run P w) v m')
    (hn : ∀ V w' φ', VR φ' v V → Inv φ' m' w' → Frm φ m w φ' m' w' → next (a.put o.dst V) w') : o.wpIn (rf ro) 0 P a w next Q := by
  obtain ⟨V, w', φ', hr, hv, hi, hf⟩ := h
  refine ⟨fun _ _ => trivial, ?_⟩
  rw [Oper.semAt_eq _ _ _ hnd]
  rcases hr with hr | ⟨hr, rfl⟩
  · rw [hr]; exact hn V w' φ' hv hi hf
  · rw [hr]; exact hn undef w' φ' hv hi hf

theorem stepOp_other (call : CallF) (ts : List Value) (m : Mem) {ao : AOp} (h : ao.isCall = false) : stepOp call ts m ao = ao.run ts m := by
  cases ao <;> first | rfl | simp [AOp.isCall] at h

theorem res_defer {P : Program} {o : Oper} {ao : AOp} (h : res P o = some ao) : ∀ c, o.op ≠ .defer c := by
  intro c hc
  unfold res at h
  rw [hc] at h
  simp only [notCall, resO, hc, Option.bind_none] at h
  cases h

theorem sound_step {ro : Option Nat} {P : Program} {call : CallF} (hc : CallOk P call) (hg : ∀ f args m r, f < yBase → call f args m = some r → goodFn P f = true) {o : Oper} {ao : AOp} (hr0 : resT P o = ao) {φ : Ren} {m m' : Mem} {w : World} (hi : Inv φ m w) {ts : List Value} {a : Act}
    (ht : VRs φ ts a.tmps.toList) {v : Value} (h : stepOp call ts m ao = some (v, m')) {next : Act → World → Prop} {Q : Exit → Act → World → Prop}
    (hn : ∀ V w' φ', VR φ' v V → Inv φ' m' w' → Frm φ m w φ' m' w' → next (a.put o.dst V) w') : o.wpIn (rf ro) 0 P a w next Q := by
  have hr : res P o = some ao := by
    unfold resT at hr0
    cases hres : res P o with
    | none => rw [hres] at hr0; simp only [Option.getD_none] at hr0; subst hr0; simp [stepOp, AOp.run] at h
    | some x => rw [hres] at hr0; simp only [Option.getD_some] at hr0; rw [hr0]
  rcases res_isCall hr with hcl | ⟨x, args, tys, ho, hcase⟩
  · rw [stepOp_other call ts m hcl] at h
    exact upon_of_comes (res_defer hr) (res_sound hr hi ht h) hn
  · obtain ⟨d, op, ty, pos, af, g⟩ := o
    simp only at ho
    subst ho
    have fin : ∀ {f : FuncId} {fst cap : Array Value} {fstA capA : List Value} {l : List Value}, a.eval x = .func (.func f) fst cap → VRs φ fstA fst.toList → VRs φ capA cap.toList →
        avals ts args.toList = some l → f < yBase → call f (fstA ++ (l ++ capA)) m = some (v, m') → Oper.wpIn (rf ro) 0 P ⟨d, .call { callee := .value x, args, argTypes := tys }, ty, pos, af, g⟩ a w next Q := by
      intro f fst cap fstA capA l hx hfst hcap hl hfl hcall
      refine ⟨fun _ _ => trivial, ?_⟩
      rw [Oper.semAt_eq _ _ _ (fun c hc => by cases hc)]
      rw [run_call hx (hg _ _ _ _ hfl hcall)]
      rw [Oper.uponIn_enter]
      refine ⟨rf_depth ro _, rf_calls.2 ?_⟩
      have := hc.fn f _ m v m' hfl hcall φ w (fst ++ args.map a.eval ++ cap) hi (by
        have := hfst.append ((avals_ok ht hl).append hcap)
        simpa using this)
      refine this.mono ?_
      rintro e w' ⟨V, φ', rfl, hv, hi', hf'⟩
      exact hn V w' φ' hv hi' hf'
    rcases hcase with ⟨f, rfl, rfl, hgf⟩ | rfl
    · simp only [stepOp, Option.bind_eq_some_iff] at h
      obtain ⟨l, hl, h⟩ := h
      exact fin (fst := #[]) (cap := #[]) (fstA := []) (capA := []) rfl (VRs.nil φ) (VRs.nil φ) hl (goodFn_lt hgf) (by simpa using h)
    · simp only [stepOp, Option.bind_eq_some_iff] at h
      obtain ⟨u, hu, ⟨f, fstA, cap⟩, hcap, l, hl, h⟩ := h
      have hv := aval_ok ht hu
      generalize hx : a.eval x = X at hv
      unfold capsOf at hcap
      split at hcap
      · rename_i f' us vs
        cases hlt : Nat.blt f' yBase with
        | false => rw [hlt] at hcap; cases hcap
        | true =>
          rw [hlt] at hcap
          simp only [cond_true, Option.some.injEq, Prod.mk.injEq] at hcap
          obtain ⟨rfl, rfl, rfl⟩ := hcap
          cases hv with
          | func _ _ _ _ _ h1 h2 h3 h4 => exact fin hx (VRs.of_array h1 h2) (VRs.of_array h3 h4) hl (by simpa using hlt) h
      · rename_i N us vs
        cases hcap
        cases hv with
        | yield _ lo hlo =>
          have hcl := hc.yl N _ m v m' h φ w (args.map a.eval) hi (by simpa using avals_ok ht hl)
          obtain ⟨lo', b, hlo', rfl, fn, tm, ass, bo, hyr, hround⟩ := hcl
          rw [hlo] at hlo'; cases hlo'
          refine ⟨fun _ _ => trivial, ?_⟩
          rw [Oper.semAt_eq _ _ _ (fun c hc => by cases hc)]
          rw [run_yieldcall hx hyr, Oper.uponIn_round]
          refine ⟨rf_depth ro _, ?_⟩
          refine RoundIn.mono (show RoundIn (rf ro) 0 P lo.blk fn tm ass bo w _ from hround) ?_
          rintro e w' ⟨rfl, φ', hi', hf'⟩
          exact hn (.bool b) w' φ' (.bool b) hi' hf'
      · cases hcap

theorem put_VRs {φ : Ren} {ts : List Value} {a : Act} (ht : VRs φ ts a.tmps.toList) (d : Option Nat) {v V : Value} (hv : VR φ v V) : VRs φ (putT ts d v) (a.put d V).tmps.toList := by
  cases d with
  | none => exact ht
  | some d => simpa [putT, Act.put] using ht.set hv d

theorem put_defers (a : Act) (d : Option Nat) (v : Value) : (a.put d v).defers = a.defers := by cases d <;> rfl

theorem VR.bool_iff {φ : Ren} {v V : Value} (h : VR φ v V) (b : Bool) : V = .bool b ↔ v = .bool b := by
  cases h <;> simp

theorem wanted_ok {φ : Ren} {ts : List Value} {a : Act} (ht : VRs φ ts a.tmps.toList) {ops : Array Oper} {o : Oper} {g : Option (Nat × Bool)}
    (hg : match o.guard with | none => g = none | some (j, want) => ∃ t, (ops[j]?).bind (·.dst) = some t ∧ g = some (t, want)) : Region.wanted o (yielded ops a.tmps) = wantedA ts g := by
  unfold Region.wanted
  split at hg
  · rename_i h0
    rw [h0]; subst hg; rfl
  · rename_i j want h0
    obtain ⟨t, h1, rfl⟩ := hg
    rw [h0]
    simp only [yielded, h1, Option.bind_some, wantedA]
    cases e : ts[t]? with
    | none =>
      have : a.tmps[t]? = none := by
        rw [Array.getElem?_eq_none_iff]
        rw [List.getElem?_eq_none_iff] at e
        have := ht.1; simp at this; omega
      rw [this]; rfl
    | some u =>
      obtain ⟨V, hV, r⟩ := ht.get e
      have hV' : a.tmps[t]? = some V := by simpa using hV
      rw [hV']
      cases r <;> simp
      all_goals (rename_i b; cases b <;> cases want <;> rfl)

/-- The state behind a piece of work held against the machine's. -/
def St (φ : Ren) (m : Mem) (w : World) (a : Act) (ts' : List Value) (m' : Mem) (a' : Act) (w' : World) : Prop :=
  ∃ φ', VRs φ' ts' a'.tmps.toList ∧ Inv φ' m' w' ∧ Frm φ m w φ' m' w' ∧ a'.defers = a.defers

end Go.Fx
