/- The abstract machine's code: regions, loops, calls; and that the machine's own runs come to the same. -/
import Derived.Test.YtnngjdfadfblmaaGreatDoorFxFlo
namespace Go.Fx
open Go
set_option linter.unusedSimpArgs false
set_option linter.unusedVariables false

inductive ACode where
  | skip
  | region (ops : List AOper)
  | draw (ops : List AOper) (lh : List (Nat × Nat))
  | drawF (ops : List AOper) (lh : List (Nat × Nat))
  | seq (a b : ACode)
  | cond (c : Operand) (a b : ACode)
  | block (id : Nat) (a : ACode)
  | loop (a : ACode)
  | exit (id : Nat)
  | ret
  | stop

inductive ARes where
  | tmp (t : Nat)
  | cell (a : Nat) (n : Option Nat)

structure AFunc where
  ntmps : Nat
  body : ACode
  results : List ARes

inductive AEx where
  | normal
  | exit (id : Nat)
  | ret
  deriving DecidableEq

abbrev Out := AEx × List Value × Mem

def loopN (f : List Value → Mem → Option Out) : Nat → List Value → Mem → Option Out
  | 0, _, _ => none
  | n + 1, ts, m => (f ts m).bind fun r => match r with
    | (.normal, ts', m') => loopN f n ts' m'
    | r => some r

def exec (call : CallF) (n : Nat) : ACode → List Value → Mem → Option Out
  | .skip, ts, m => some (.normal, ts, m)
  | .region ops, ts, m => (runOps call ops ts m).map fun r => (.normal, r.1, r.2)
  | .draw ops lh, ts, m => (runD call ops lh ts m).map fun r => (.normal, r.1, r.2)
  | .drawF ops lh, ts, m => (runD call (ops.map (setB m.next)) lh ts (m.bump ops.length)).map fun r => (.normal, r.1, r.2)
  | .seq a b, ts, m => (exec call n a ts m).bind fun r => match r with
    | (.normal, ts', m') => exec call n b ts' m'
    | r => some r
  | .cond c a b, ts, m => (aval ts c).bind fun v => (asB v).bind fun t => if t then exec call n a ts m else exec call n b ts m
  | .block id a, ts, m => (exec call n a ts m).map fun r => match r with
    | (.exit j, ts', m') => if j = id then (.normal, ts', m') else (.exit j, ts', m')
    | r => r
  | .loop a, ts, m => loopN (exec call n a) n ts m
  | .exit id, ts, m => some (.exit id, ts, m)
  | .ret, ts, m => some (.ret, ts, m)
  | .stop, _, _ => none

def resV (ts : List Value) (m : Mem) : ARes → Option Value
  | .tmp t => some (ts[t]?.getD undef)
  | .cell a none => runLoad1 (ts[a]?.getD undef) m
  | .cell a (some n) => runLoadN n (ts[a]?.getD undef) m

def resVs (ts : List Value) (m : Mem) : List ARes → Option (List Value)
  | [] => some []
  | r :: rs => match resV ts m r, resVs ts m rs with
    | some v, some l => some (v :: l)
    | _, _ => none

def oneOf : List Value → Value
  | [v] => v
  | l => .tuple l.toArray

abbrev Tab := FuncId → Option AFunc

def body (fn : AFunc) (call : CallF) (n : Nat) (args : List Value) (m : Mem) : Option (Value × Mem) :=
  (exec call n fn.body (args ++ List.replicate (fn.ntmps - args.length) undef) m).bind fun r => match r with
    | (.exit _, _, _) => none
    | (_, ts, m') => (resVs ts m' fn.results).map fun l => (oneOf l, m')

/-- Calls: 'S' answers those whose answers are known otherwise. -/
def call (S : CallF) (tab : Tab) : Nat → CallF
  | 0, f, args, m => S f args m
  | n + 1, f, args, m => match S f args m with
    | some r => some r
    | none => (tab f).bind fun fn => body fn (call S tab n) n args m

def noS : CallF := fun _ _ _ => none

def comp (P : Program) : Code → ACode
  | .skip => .skip
  | .region _ ops false => match compOps P ops ops.toList with
    | some al => .region al
    | none => .stop
  | .region _ ops true => match compOps P ops ops.toList with
    | some al => if dOk (ops.toList.map edgesOf) al = true then (if seqOk 0 al (dLohi (ops.toList.map edgesOf) al) = true then .region al else .draw al (dLohi (ops.toList.map edgesOf) al)) else if al.all (fun o => !isFlo o.op) = true ∧ dOkF (ops.toList.map edgesOf) (mkF (floP ops al (masks (ops.toList.map edgesOf))) 0 al) = true then .drawF (mkF (floP ops al (masks (ops.toList.map edgesOf))) 0 al) (dLohiF (ops.toList.map edgesOf) (mkF (floP ops al (masks (ops.toList.map edgesOf))) 0 al)) else .stop
    | none => .stop
  | .seq a b => .seq (comp P a) (comp P b)
  | .cond c a b => .cond c (comp P a) (comp P b)
  | .block id a => .block id (comp P a)
  | .loop a => .loop (comp P a)
  | .exit id => .exit id
  | .ret => .ret
  | _ => .stop

def compRes (P : Program) : ResultVar → Option ARes
  | .tmp t => some (.tmp t)
  | .cell a t => (aggT P t).bind fun ag => if ag then (sizeT P t).map fun n => .cell a (some n) else some (.cell a none)

def compF (P : Program) (f : FuncId) : Option AFunc :=
  (P.funcs[f]?).bind fun fn => fn.body.bind fun c => (fn.results.toList.mapM (compRes P)).map fun rs => ⟨fn.ntmps, comp P c, rs⟩

def TabOk (P : Program) (tab : Tab) : Prop := ∀ f x, tab f = some x → compF P f = some x

theorem CallOk.goodFn_of {P : Program} {tab : Tab} (ht : TabOk P tab) {f : FuncId} {x : AFunc} (h : tab f = some x) : ∃ fn c, P.funcs[f]? = some fn ∧ fn.body = some c ∧ x.body = comp P c ∧ x.ntmps = fn.ntmps ∧ fn.results.toList.mapM (compRes P) = some x.results := by
  have := ht f x h
  simp only [compF, Option.bind_eq_some_iff, Option.map_eq_some_iff] at this
  obtain ⟨fn, h1, c, h2, rs, h4, rfl⟩ := this
  exact ⟨fn, c, h1, h2, rfl, rfl, h4⟩

theorem sound_ops {ro : Option Nat} {P : Program} {call : CallF} (hc : CallOk P call) (hg : ∀ f args m r, f < yBase → call f args m = some r → goodFn P f = true) {ops : Array Oper} {Q : Exit → Act → World → Prop} : ∀ (l : List Oper) (al : List AOper) (ts : List Value) (m : Mem) (a : Act) (w : World) (φ : Ren) (ts' : List Value) (m' : Mem),
    compOps P ops l = some al → Inv φ m w → VRs φ ts a.tmps.toList → runOps call al ts m = some (ts', m') → (∀ a' w', St φ m w a ts' m' a' w' → Q .normal a' w') → wpListIn (rf ro) 0 P ops Q l a w := by
  intro l
  induction l with
  | nil =>
    intro al ts m a w φ ts' m' h hi ht hr hQ
    simp only [compOps, Option.some.injEq] at h
    subst h
    simp only [runOps, Option.some.injEq, Prod.mk.injEq] at hr
    obtain ⟨rfl, rfl⟩ := hr
    exact hQ a w ⟨φ, ht, hi, Frm.refl φ m w, rfl⟩
  | cons o l ih =>
    intro al ts m a w φ ts' m' h hi ht hr hQ
    simp only [compOps, Option.bind_eq_some_iff] at h
    obtain ⟨al', hal, h⟩ := h
    have hal2 : ∃ g, al = ⟨o.dst, resT P o, g⟩ :: al' ∧ (match o.guard with | none => g = none | some (j, want) => ∃ t, (ops[j]?).bind (·.dst) = some t ∧ g = some (t, want)) := by
      split at h
      · rename_i h0; cases h; exact ⟨none, rfl, by rw [h0]⟩
      · rename_i j want h0
        simp only [Option.map_eq_some_iff] at h
        obtain ⟨t, ht, rfl⟩ := h
        exact ⟨some (t, want), rfl, by rw [h0]; exact ⟨t, ht, rfl⟩⟩
    obtain ⟨g, rfl, hgu⟩ := hal2
    have hw := wanted_ok ht hgu
    simp only [runOps] at hr
    unfold wpListIn
    rw [hw]
    split at hr
    · rename_i hwant
      rw [if_pos hwant]
      simp only [Option.bind_eq_some_iff] at hr
      obtain ⟨⟨v, m1⟩, hs, hr⟩ := hr
      refine sound_step hc hg rfl hi ht hs ?_
      intro V w1 φ1 hv hi1 hf1
      refine ih al' _ m1 _ w1 φ1 ts' m' hal hi1 (put_VRs (ht.mono hf1.ren) o.dst hv) hr ?_
      rintro a' w' ⟨φ', h1, h2, h3, h4⟩
      exact hQ a' w' ⟨φ', h1, h2, hf1.trans h3, by rw [h4, put_defers]⟩
    · rename_i hwant
      rw [if_neg hwant]
      refine ⟨fun _ _ => trivial, ?_⟩
      refine ih al' _ m _ w φ ts' m' hal hi (put_VRs ht o.dst (VR.undef φ)) hr ?_
      rintro a' w' ⟨φ', h1, h2, h3, h4⟩
      exact hQ a' w' ⟨φ', h1, h2, h3, by rw [h4, put_defers]⟩

def AEx.to : AEx → Exit
  | .normal => .normal
  | .exit id => .exit id
  | .ret => .ret

theorem sound_code {ro : Option Nat} {P : Program} {call : CallF} (hc : CallOk P call) (hg : ∀ f args m r, f < yBase → call f args m = some r → goodFn P f = true) (hm : P.follows .mixedOrders = true) (n : Nat) : ∀ (c : Code) (ts : List Value) (m : Mem) (a : Act) (w : World) (φ : Ren) (e : AEx) (ts' : List Value) (m' : Mem) (Q : Exit → Act → World → Prop),
    Inv φ m w → VRs φ ts a.tmps.toList → exec call n (comp P c) ts m = some (e, ts', m') → (∀ a' w', St φ m w a ts' m' a' w' → Q e.to a' w') → c.wpIn (rf ro) 0 P Q a w := by
  intro c
  induction c with
  | skip =>
    intro ts m a w φ e ts' m' Q hi ht hr hQ
    simp only [comp, exec, Option.some.injEq, Prod.mk.injEq] at hr
    obtain ⟨rfl, rfl, rfl⟩ := hr
    exact wpIn_skip (hQ a w ⟨φ, ht, hi, Frm.refl φ m w, rfl⟩)
  | exit id =>
    intro ts m a w φ e ts' m' Q hi ht hr hQ
    simp only [comp, exec, Option.some.injEq, Prod.mk.injEq] at hr
    obtain ⟨rfl, rfl, rfl⟩ := hr
    exact wpIn_exit (hQ a w ⟨φ, ht, hi, Frm.refl φ m w, rfl⟩)
  | ret =>
    intro ts m a w φ e ts' m' Q hi ht hr hQ
    simp only [comp, exec, Option.some.injEq, Prod.mk.injEq] at hr
    obtain ⟨rfl, rfl, rfl⟩ := hr
    exact wpIn_ret (hQ a w ⟨φ, ht, hi, Frm.refl φ m w, rfl⟩)
  | region id ops draw =>
    intro ts m a w φ e ts' m' Q hi ht hr hQ
    cases draw with
    | true =>
      simp only [comp] at hr
      split at hr
      · rename_i al hal
        split at hr
        · rename_i hd
          split at hr
          · rename_i hsq
            simp only [exec, Option.map_eq_some_iff, Prod.mk.injEq] at hr
            obtain ⟨⟨ts1, m1⟩, hr, rfl, rfl, rfl⟩ := hr
            exact sound_draw hc hg hm hal hd hi ht (runD_seq hsq hr) hQ
          · simp only [exec, Option.map_eq_some_iff, Prod.mk.injEq] at hr
            obtain ⟨⟨ts1, m1⟩, hr, rfl, rfl, rfl⟩ := hr
            exact sound_draw hc hg hm hal hd hi ht hr hQ
        · split at hr
          · rename_i hd
            simp only [exec, Option.map_eq_some_iff, Prod.mk.injEq] at hr
            obtain ⟨⟨ts1, m1⟩, hr, rfl, rfl, rfl⟩ := hr
            exact sound_drawF hc hg hm hal rfl hd.1 hd.2 hi ht hr hQ
          · simp [exec] at hr
      · simp [exec] at hr
    | false =>
      simp only [comp] at hr
      split at hr
      · rename_i al hal
        simp only [exec, Option.map_eq_some_iff, Prod.mk.injEq] at hr
        obtain ⟨⟨ts1, m1⟩, hr, rfl, rfl, rfl⟩ := hr
        exact wpIn_region_list (sound_ops hc hg ops.toList al ts m a w φ ts1 m1 hal hi ht hr hQ)
      · simp [exec] at hr
  | seq x y ihx ihy =>
    intro ts m a w φ e ts' m' Q hi ht hr hQ
    simp only [comp, exec, Option.bind_eq_some_iff] at hr
    obtain ⟨⟨e1, ts1, m1⟩, h1, hr⟩ := hr
    refine wpIn_seq (ihx ts m a w φ e1 ts1 m1 _ hi ht h1 ?_)
    rintro a1 w1 ⟨φ1, q1, q2, q3, q4⟩
    cases e1 with
    | normal =>
      simp only at hr
      refine ihy ts1 m1 a1 w1 φ1 e ts' m' Q q2 q1 hr ?_
      rintro a' w' ⟨φ', h1, h2, h3, h4⟩
      exact hQ a' w' ⟨φ', h1, h2, q3.trans h3, h4.trans q4⟩
    | exit id =>
      simp only [Option.some.injEq, Prod.mk.injEq] at hr
      obtain ⟨rfl, rfl, rfl⟩ := hr
      exact hQ a1 w1 ⟨φ1, q1, q2, q3, q4⟩
    | ret =>
      simp only [Option.some.injEq, Prod.mk.injEq] at hr
      obtain ⟨rfl, rfl, rfl⟩ := hr
      exact hQ a1 w1 ⟨φ1, q1, q2, q3, q4⟩
  | cond x p q ihp ihq =>
    intro ts m a w φ e ts' m' Q hi ht hr hQ
    simp only [comp, exec, Option.bind_eq_some_iff] at hr
    obtain ⟨v, hv, t, htt, hr⟩ := hr
    have hvr := aval_ok ht hv
    generalize hx : a.eval x = X at hvr
    unfold asB at htt
    split at htt
    · cases htt
      cases hvr
      refine wpIn_cond hx ?_
      cases t
      · exact ihq ts m a w φ e ts' m' Q hi ht hr hQ
      · exact ihp ts m a w φ e ts' m' Q hi ht hr hQ
    · cases htt
  | block id x ih =>
    intro ts m a w φ e ts' m' Q hi ht hr hQ
    simp only [comp, exec, Option.map_eq_some_iff] at hr
    obtain ⟨⟨e1, ts1, m1⟩, h1, hr⟩ := hr
    refine wpIn_block (ih ts m a w φ e1 ts1 m1 _ hi ht h1 ?_)
    intro a1 w1 hst
    cases e1 with
    | normal =>
      simp only [Prod.mk.injEq] at hr
      obtain ⟨rfl, rfl, rfl⟩ := hr
      exact hQ a1 w1 hst
    | exit j =>
      simp only at hr
      simp only [AEx.to, Exit.inBlock]
      split at hr
      · rename_i hj
        simp only [Prod.mk.injEq] at hr
        obtain ⟨rfl, rfl, rfl⟩ := hr
        rw [if_pos hj]; exact hQ a1 w1 hst
      · rename_i hj
        simp only [Prod.mk.injEq] at hr
        obtain ⟨rfl, rfl, rfl⟩ := hr
        rw [if_neg hj]; exact hQ a1 w1 hst
    | ret =>
      simp only [Prod.mk.injEq] at hr
      obtain ⟨rfl, rfl, rfl⟩ := hr
      exact hQ a1 w1 hst
  | loop x ih =>
    intro ts m a w φ e ts' m' Q hi ht hr hQ
    simp only [comp, exec] at hr
    have key : ∀ (k : Nat) (ts : List Value) (m : Mem) (a : Act) (w : World) (φ : Ren), Inv φ m w → VRs φ ts a.tmps.toList → loopN (exec call n (comp P x)) k ts m = some (e, ts', m') → (∀ a' w', St φ m w a ts' m' a' w' → Q e.to a' w') → Code.roundsIn (rf ro) 0 P x Q k a w := by
      intro k
      induction k with
      | zero => intro ts m a w φ hi ht hr; simp [loopN] at hr
      | succ k ihk =>
        intro ts m a w φ hi ht hr hQ
        simp only [loopN, Option.bind_eq_some_iff] at hr
        obtain ⟨⟨e1, ts1, m1⟩, h1, hr⟩ := hr
        rw [roundsIn_succ]
        refine ih ts m a w φ e1 ts1 m1 _ hi ht h1 ?_
        rintro a1 w1 ⟨φ1, q1, q2, q3, q4⟩
        cases e1 with
        | normal =>
          simp only at hr
          refine ihk ts1 m1 a1 w1 φ1 q2 q1 hr ?_
          rintro a' w' ⟨φ', h1, h2, h3, h4⟩
          exact hQ a' w' ⟨φ', h1, h2, q3.trans h3, h4.trans q4⟩
        | exit id =>
          simp only [Option.some.injEq, Prod.mk.injEq] at hr
          obtain ⟨rfl, rfl, rfl⟩ := hr
          exact hQ a1 w1 ⟨φ1, q1, q2, q3, q4⟩
        | ret =>
          simp only [Option.some.injEq, Prod.mk.injEq] at hr
          obtain ⟨rfl, rfl, rfl⟩ := hr
          exact hQ a1 w1 ⟨φ1, q1, q2, q3, q4⟩
    exact wpIn_loop_rounds n (key n ts m a w φ hi ht hr hQ)
  | _ =>
    intros
    rename_i h _
    simp [comp, exec] at h

theorem sound_res {P : Program} {φ : Ren} {m : Mem} {w : World} (hi : Inv φ m w) {ts : List Value} {tmps : Array Value} (ht : VRs φ ts tmps.toList) : ∀ (l : List ResultVar) (al : List ARes) (vs : List Value), l.mapM (compRes P) = some al → resVs ts m al = some vs →
    ∃ Vs, (l.mapM (fun | .tmp t => pure (tmps.getD t undef) | .cell a t => do loadVar t (← asAddr (tmps.getD a undef))) : Sem (List Value)).run P w = .ok Vs w ∧ VRs φ vs Vs := by
  have hget : ∀ t, VR φ (ts[t]?.getD undef) (tmps.getD t undef) := by
    intro t
    have := aval_ok (a := { tmps, defers := [] }) ht (x := .tmp t) rfl
    exact this
  intro l
  induction l with
  | nil =>
    intro al vs h hv
    simp at h; subst h
    simp only [resVs, Option.some.injEq] at hv
    subst hv
    exact ⟨[], by simp, VRs.nil φ⟩
  | cons r l ih =>
    intro al vs h hv
    simp only [List.mapM_cons, Option.bind_eq_bind, Option.bind_eq_some_iff, Option.pure_def, Option.some.injEq] at h
    obtain ⟨ar, har, al', hal, rfl⟩ := h
    simp only [resVs] at hv
    split at hv
    · rename_i v vs' hv1 hv2
      cases hv
      obtain ⟨Vs, h1, h2⟩ := ih al' vs' hal hv2
      have hone : ∃ V, ((match r with | .tmp t => pure (tmps.getD t undef) | .cell a t => do loadVar t (← asAddr (tmps.getD a undef))) : Sem Value).run P w = .ok V w ∧ VR φ v V := by
        cases r with
        | tmp t =>
          simp only [compRes, Option.some.injEq] at har
          subst har
          simp only [resV, Option.some.injEq] at hv1
          subst hv1
          exact ⟨_, rfl, hget t⟩
        | cell a t =>
          simp only [compRes, Option.bind_eq_some_iff] at har
          obtain ⟨ag, hag, har⟩ := har
          have hsure : ∀ {V : Value} {u U : Value}, VR φ u V → (asPtr u).isSome = true → (Instr.loadAt t V).run P w = .ok U w → ((do loadVar t (← asAddr V)) : Sem Value).run P w = .ok U w := by
            intro V u U hr hp h
            cases hr <;> simp [asPtr] at hp
            simpa [Instr.loadAt, Instr.sureAddr, asAddr] using h
          cases ag
          · simp only [Bool.false_eq_true, if_false, Option.some.injEq] at har
            subst har
            simp only [resV] at hv1
            obtain ⟨U, h3, h4⟩ := sound_load1 (P := P) hi hag (hget a) hv1
            refine ⟨U, hsure (hget a) ?_ h3, h4⟩
            simp only [runLoad1, Option.bind_eq_some_iff] at hv1
            obtain ⟨p, hp, _⟩ := hv1
            rw [hp]; rfl
          · simp only [if_true, Option.map_eq_some_iff] at har
            obtain ⟨n, hn, rfl⟩ := har
            obtain ⟨i, hti, rfl⟩ := sizeT_some hn
            simp only [resV] at hv1
            obtain ⟨U, h3, h4⟩ := sound_loadN (P := P) hi hag hti (hget a) hv1
            refine ⟨U, hsure (hget a) ?_ h3, h4⟩
            simp only [runLoadN, Option.bind_eq_some_iff] at hv1
            obtain ⟨p, hp, _⟩ := hv1
            rw [hp]; rfl
      obtain ⟨V, h3, h4⟩ := hone
      refine ⟨V :: Vs, ?_, VRs.cons h4 h2⟩
      simp only [List.mapM_cons, Sem.run_bind]
      rw [h3]
      simp only [Result.andThen_ok]
      rw [h1]
      rfl
    · cases hv

theorem results_ok {P : Program} {φ : Ren} {m : Mem} {w : World} (hi : Inv φ m w) {ts : List Value} {tmps : Array Value} (ht : VRs φ ts tmps.toList) {fn : Func} {al : List ARes} {vs : List Value} (h : fn.results.toList.mapM (compRes P) = some al) (hv : resVs ts m al = some vs) :
    ∃ V, (results fn tmps).run P w = .ok V w ∧ VR φ (oneOf vs) V := by
  obtain ⟨Vs, h1, h2⟩ := sound_res (P := P) hi ht _ al vs h hv
  rw [← Array.toList_mapM, Sem.run_map] at h1
  have h3 : ∃ A : Array Value, (fn.results.mapM (fun | .tmp t => pure (tmps.getD t undef) | .cell a t => do loadVar t (← asAddr (tmps.getD a undef))) : Sem (Array Value)).run P w = .ok A w ∧ A.toList = Vs := by
    generalize (fn.results.mapM (fun | .tmp t => pure (tmps.getD t undef) | .cell a t => do loadVar t (← asAddr (tmps.getD a undef))) : Sem (Array Value)).run P w = q at h1 ⊢
    cases q with
    | ok A w' => simp at h1; obtain ⟨rfl, rfl⟩ := h1; exact ⟨A, rfl, rfl⟩
    | halt q w' => simp at h1
  obtain ⟨A, h3, rfl⟩ := h3
  refine ⟨if h : A.size = 1 then A[0] else .tuple A, ?_, ?_⟩
  · simp only [results, Sem.run_bind]
    refine Eq.trans (congrArg (fun x => Result.andThen x _) h3) ?_
    rfl
  · have hsz := h2.1
    simp only [Array.length_toList] at hsz
    by_cases h1 : A.size = 1
    · rw [dif_pos h1]
      cases vs with
      | nil => simp at hsz; omega
      | cons v r =>
        cases r with
        | nil =>
          simp only [oneOf]
          exact h2.2 0 v A[0] rfl (by simp [h1])
        | cons v' r => simp at hsz; omega
    · rw [dif_neg h1]
      have htup := h2.tuple
      have : oneOf vs = .tuple vs.toArray := by
        cases vs with
        | nil => rfl
        | cons v r => cases r with
          | nil => simp at hsz; omega
          | cons _ _ => rfl
      rw [this]
      simpa using htup

theorem call_good {P : Program} {S : CallF} {tab : Tab} (hS : ∀ f args m r, f < yBase → S f args m = some r → goodFn P f = true) (hn : ∀ f x, tab f = some x → goodFn P f = true) : ∀ n f args m r, f < yBase → call S tab n f args m = some r → goodFn P f = true := by
  intro n f args m r hf h
  cases n with
  | zero => exact hS _ _ _ _ hf h
  | succ n =>
    simp only [call] at h
    split at h
    · rename_i hs; exact hS _ _ _ _ hf hs
    · simp only [Option.bind_eq_some_iff] at h
      obtain ⟨x, hx, _⟩ := h
      exact hn f x hx

theorem sound_call {P : Program} {S : CallF} {tab : Tab} (hm : P.follows .mixedOrders = true) (hSok : CallOk P S) (hS : ∀ f args m r, f < yBase → S f args m = some r → goodFn P f = true) (htab : TabOk P tab) (hn : ∀ f x, tab f = some x → goodFn P f = true) : ∀ n, CallOk P (call S tab n) := by
  intro n
  induction n with
  | zero => exact hSok
  | succ n ih =>
    refine ⟨?_, fun N args m v m' h φ w ARGS hi hargs => ?_⟩
    rotate_left
    · simp only [call] at h
      split at h
      · rename_i r hs
        cases h
        exact hSok.yl N args m v m' hs φ w ARGS hi hargs
      · simp only [Option.bind_eq_some_iff] at h
        obtain ⟨x, hx, _⟩ := h
        exact absurd (goodFn_lt (hn _ x hx)) (Nat.not_lt.2 (Nat.le_add_right yBase N))
    intro f args m v m' hf h φ w ARGS hi hargs
    simp only [call] at h
    split at h
    · rename_i r hs
      cases h
      exact hSok.fn f args m v m' hf hs φ w ARGS hi hargs
    simp only [Option.bind_eq_some_iff] at h
    obtain ⟨x, hx, h⟩ := h
    obtain ⟨fn, c, h1, h2, h4, h5, h6⟩ := CallOk.goodFn_of htab hx
    simp only [body, Option.bind_eq_some_iff] at h
    obtain ⟨⟨e, ts, m1⟩, hex, h⟩ := h
    refine rf_calls.1 (callsIn_of_wp (F := rf none) (n := 0) h1 h2 trivial ?_)
    have htm : VRs φ (args ++ List.replicate (x.ntmps - args.length) undef) (ARGS ++ Array.replicate (fn.ntmps - ARGS.size) undef).toList := by
      have hl : args.length = ARGS.size := by simpa using hargs.1
      rw [Array.toList_append, h5, hl, Array.toList_replicate]
      refine hargs.append ⟨rfl, fun i x y hx hy => ?_⟩
      rw [hx] at hy; cases hy
      rw [List.getElem?_replicate] at hx
      split at hx
      · cases hx; exact VR.undef φ
      · cases hx
    refine sound_code ih (call_good hS hn n) hm n c _ m _ w φ e ts m1 _ hi htm (h4 ▸ hex) ?_
    rintro a' w' ⟨φ', q1, q2, q3, q4⟩
    have fin : ∀ (e' : AEx), e = e' → (e' = .normal ∨ e' = .ret) → bodyPost P fn (fun e w' => ∃ V φ', e = .returned V ∧ VR φ' v V ∧ Inv φ' m' w' ∧ Frm φ m w φ' m' w') e'.to a' w' := by
      intro e' he he'
      subst he
      have hv : (resVs ts m1 x.results).map (fun l => (oneOf l, m1)) = some (v, m') := by
        rcases he' with rfl | rfl <;> exact h
      simp only [Option.map_eq_some_iff, Prod.mk.injEq] at hv
      obtain ⟨l, hl, rfl, rfl⟩ := hv
      obtain ⟨V, hV, hr⟩ := results_ok (P := P) q2 q1 h6 hl
      rcases he' with rfl | rfl <;> exact ⟨q4, V, hV, V, φ', rfl, hr, q2, q3⟩
    cases e with
    | normal => exact fin .normal rfl (.inl rfl)
    | ret => exact fin .ret rfl (.inr rfl)
    | exit id => simp at h

theorem noS_ok (P : Program) : CallOk P noS := ⟨fun f args m v m' _ h => by simp [noS] at h, fun N args m v m' h => by simp [noS] at h⟩
theorem noS_good {P : Program} : ∀ f args m r, f < yBase → noS f args m = some r → goodFn P f = true := fun f args m r _ h => by simp [noS] at h

end Go.Fx
