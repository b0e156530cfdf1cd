/- Regions whose order is open, stepped forward: equations without a function that goes on. -/
import Derived.Test.YtnngjdfadfblmaaGreatDoorFxTyp
namespace Go.Fx
open Go
set_option linter.unusedSimpArgs false
set_option linter.unusedVariables false

abbrev Rq := Req × Value × Nat × Nat

/-- The rest of a region, behind these memories, with these readings to look at. -/
def runDA (call : CallF) (ops : List AOper) (lh : List (Nat × Nat)) (ts : List Value) (m : Mem) (ms : List Mem) (rq : List Rq) : Option (List Value × Mem) :=
  (runTr call ops lh ts m).bind fun x => if (rq ++ x.2.2.2).all (okReq (ms ++ x.2.2.1)) = true then some (x.1, x.2.1) else none

def drP (call : CallF) (r : List AOper) (lh : List (Nat × Nat)) (d : Option Nat) (ts : List Value) (m : Mem) (ms : List Mem) (rq : List Rq) (o : Option (Value × Mem)) : Option (List Value × Mem) := o.bind fun p => runDA call r lh (putT ts d p.1) m ms rq
def drE (call : CallF) (r : List AOper) (lh : List (Nat × Nat)) (d : Option Nat) (ts : List Value) (ms : List Mem) (rq : List Rq) (o : Option (Value × Mem)) : Option (List Value × Mem) := o.bind fun p => runDA call r lh (putT ts d p.1) p.2 ms rq
def drV (call : CallF) (r : List AOper) (lh : List (Nat × Nat)) (d : Option Nat) (ts : List Value) (m : Mem) (ms : List Mem) (rq : List Rq) (q : Req) (l : Nat × Nat) (o : Option Value) : Option (List Value × Mem) := o.bind fun v => runDA call r lh (putT ts d v) m ms (rq ++ [(q, v, l)])
def drR (call : CallF) (r : List AOper) (lh : List (Nat × Nat)) (d : Option Nat) (ts : List Value) (m : Mem) (ms : List Mem) (rq : List Rq) (l : Nat × Nat) (o : Option Req) : Option (List Value × Mem) := o.bind fun q => drV call r lh d ts m ms rq q l (q.run m)
/-- One operation that is wanted. -/
def drC (call : CallF) (o : AOp) (l : Nat × Nat) (r : List AOper) (lh : List (Nat × Nat)) (d : Option Nat) (ts : List Value) (m : Mem) (ms : List Mem) (rq : List Rq) (c : Cls) : Option (List Value × Mem) := match c with
  | .pure => drP call r lh d ts m ms rq (o.run ts m)
  | .eff => drE call r lh d ts (ms ++ [m]) rq (stepOp call ts m o)
  | .read => drR call r lh d ts m ms rq l (o.req ts)
/-- One that is not. -/
def drN (call : CallF) (r : List AOper) (lh : List (Nat × Nat)) (d : Option Nat) (ts : List Value) (m : Mem) (ms : List Mem) (rq : List Rq) (c : Cls) : Option (List Value × Mem) := match c with
  | .eff => runDA call r lh (putT ts d undef) m (ms ++ [m]) rq
  | _ => runDA call r lh (putT ts d undef) m ms rq
def drG (call : CallF) (o : AOp) (l : Nat × Nat) (r : List AOper) (lh : List (Nat × Nat)) (d : Option Nat) (ts : List Value) (m : Mem) (ms : List Mem) (rq : List Rq) (w : Bool) : Option (List Value × Mem) :=
  if w then drC call o l r lh d ts m ms rq o.cls else drN call r lh d ts m ms rq o.cls

theorem D_start (call : CallF) (ops : List AOper) (lh : List (Nat × Nat)) (ts : List Value) (m : Mem) : runD call ops lh ts m = runDA call ops lh ts m [] [] := by
  simp [runD, runDA]
theorem D_nil (call : CallF) (lh : List (Nat × Nat)) (ts : List Value) (m : Mem) (ms : List Mem) (rq : List Rq) : runDA call [] lh ts m ms rq = if rq.all (okReq (ms ++ [m])) = true then some (ts, m) else none := by
  simp only [runDA, runTr, Option.bind_some]
  rw [List.append_nil]
theorem D_cons (call : CallF) (d : Option Nat) (o : AOp) (g : Option (Nat × Bool)) (r : List AOper) (l : Nat × Nat) (lh : List (Nat × Nat)) (ts : List Value) (m : Mem) (ms : List Mem) (rq : List Rq) :
    runDA call (⟨d, o, g⟩ :: r) (l :: lh) ts m ms rq = drG call o l r lh d ts m ms rq (wantedA ts g) := by
  unfold runDA
  rw [runTr]
  unfold drG
  by_cases hw : wantedA ts g = true
  · simp only [hw, if_true]
    cases hc : o.cls with
    | pure => simp only [drC, drP, runDA, List.tail_cons, Option.bind_assoc]
    | eff =>
      simp only [drC, drE, runDA, List.tail_cons, Option.bind_assoc]
      cases stepOp call ts m o with
      | none => rfl
      | some p =>
        simp only [Option.bind_some]
        cases runTr call r lh (putT ts d p.1) p.2 with
        | none => rfl
        | some x => simp only [Option.map_some, Option.bind_some]; rw [List.append_assoc ms]; rfl
    | read =>
      simp only [drC, drR, drV, runDA, List.tail_cons, Option.bind_assoc, List.headD_cons]
      cases o.req ts with
      | none => rfl
      | some q =>
        simp only [Option.bind_some]
        cases q.run m with
        | none => rfl
        | some v =>
          simp only [Option.bind_some]
          cases runTr call r lh (putT ts d v) m with
          | none => rfl
          | some x => simp only [Option.map_some, Option.bind_some]; rw [List.append_assoc rq]; rfl
  · have hw' : wantedA ts g = false := by simpa using hw
    simp only [hw', Bool.false_eq_true, if_false]
    cases hc : o.cls with
    | pure => simp only [drN, runDA, List.tail_cons]
    | eff =>
      simp only [drN, runDA, List.tail_cons]
      cases runTr call r lh (putT ts d undef) m with
      | none => rfl
      | some x => simp only [Option.map_some, Option.bind_some]; rw [List.append_assoc ms]; rfl
    | read => simp only [drN, runDA, List.tail_cons]

theorem drG_true (call : CallF) (o : AOp) (l : Nat × Nat) (r : List AOper) (lh : List (Nat × Nat)) (d : Option Nat) (ts : List Value) (m : Mem) (ms : List Mem) (rq : List Rq) : drG call o l r lh d ts m ms rq true = drC call o l r lh d ts m ms rq o.cls := rfl
theorem drG_false (call : CallF) (o : AOp) (l : Nat × Nat) (r : List AOper) (lh : List (Nat × Nat)) (d : Option Nat) (ts : List Value) (m : Mem) (ms : List Mem) (rq : List Rq) : drG call o l r lh d ts m ms rq false = drN call r lh d ts m ms rq o.cls := rfl
theorem drC_pure (call : CallF) (o : AOp) (l : Nat × Nat) (r : List AOper) (lh : List (Nat × Nat)) (d : Option Nat) (ts : List Value) (m : Mem) (ms : List Mem) (rq : List Rq) : drC call o l r lh d ts m ms rq .pure = drP call r lh d ts m ms rq (o.run ts m) := rfl
theorem drC_eff (call : CallF) (o : AOp) (l : Nat × Nat) (r : List AOper) (lh : List (Nat × Nat)) (d : Option Nat) (ts : List Value) (m : Mem) (ms : List Mem) (rq : List Rq) : drC call o l r lh d ts m ms rq .eff = drE call r lh d ts (ms ++ [m]) rq (stepOp call ts m o) := rfl
theorem drC_read (call : CallF) (o : AOp) (l : Nat × Nat) (r : List AOper) (lh : List (Nat × Nat)) (d : Option Nat) (ts : List Value) (m : Mem) (ms : List Mem) (rq : List Rq) : drC call o l r lh d ts m ms rq .read = drR call r lh d ts m ms rq l (o.req ts) := rfl
theorem drN_pure (call : CallF) (r : List AOper) (lh : List (Nat × Nat)) (d : Option Nat) (ts : List Value) (m : Mem) (ms : List Mem) (rq : List Rq) : drN call r lh d ts m ms rq .pure = runDA call r lh (putT ts d undef) m ms rq := rfl
theorem drN_read (call : CallF) (r : List AOper) (lh : List (Nat × Nat)) (d : Option Nat) (ts : List Value) (m : Mem) (ms : List Mem) (rq : List Rq) : drN call r lh d ts m ms rq .read = runDA call r lh (putT ts d undef) m ms rq := rfl
theorem drN_eff (call : CallF) (r : List AOper) (lh : List (Nat × Nat)) (d : Option Nat) (ts : List Value) (m : Mem) (ms : List Mem) (rq : List Rq) : drN call r lh d ts m ms rq .eff = runDA call r lh (putT ts d undef) m (ms ++ [m]) rq := rfl
theorem drP_some (call : CallF) (r : List AOper) (lh : List (Nat × Nat)) (d : Option Nat) (ts : List Value) (m m' : Mem) (ms : List Mem) (rq : List Rq) (v : Value) : drP call r lh d ts m ms rq (some (v, m')) = runDA call r lh (putT ts d v) m ms rq := rfl
theorem drE_some (call : CallF) (r : List AOper) (lh : List (Nat × Nat)) (d : Option Nat) (ts : List Value) (m' : Mem) (ms : List Mem) (rq : List Rq) (v : Value) : drE call r lh d ts ms rq (some (v, m')) = runDA call r lh (putT ts d v) m' ms rq := rfl
theorem drR_some (call : CallF) (r : List AOper) (lh : List (Nat × Nat)) (d : Option Nat) (ts : List Value) (m : Mem) (ms : List Mem) (rq : List Rq) (l : Nat × Nat) (q : Req) : drR call r lh d ts m ms rq l (some q) = drV call r lh d ts m ms rq q l (q.run m) := rfl
theorem drV_some (call : CallF) (r : List AOper) (lh : List (Nat × Nat)) (d : Option Nat) (ts : List Value) (m : Mem) (ms : List Mem) (rq : List Rq) (q : Req) (l : Nat × Nat) (v : Value) : drV call r lh d ts m ms rq q l (some v) = runDA call r lh (putT ts d v) m ms (rq ++ [(q, v, l)]) := rfl

/-- The readings, one by one: memory number k down from the last that counts. -/
def okAt (q : Req) (v : Value) (ms : List Mem) : Nat → Nat → Bool
  | _, 0 => true
  | k, n + 1 => okOne q v ms[k]? && okAt q v ms (k + 1) n
where okOne (q : Req) (v : Value) : Option Mem → Bool
  | some M => match q.run M with
    | some u => veq u v
    | none => false
  | none => false

theorem okReq_at (ms : List Mem) (q : Req) (v : Value) (lo hi : Nat) : okReq ms (q, v, lo, hi) = okAt q v ms lo (hi + 1 - lo) := by
  unfold okReq
  simp only
  generalize hi + 1 - lo = n
  induction n generalizing lo with
  | zero => rfl
  | succ n ih =>
    rw [List.range_succ_eq_map, List.all_cons, List.all_map, okAt, ← ih (lo + 1)]
    congr 1
    congr 1
    funext k
    simp only [Function.comp]
    rw [show lo + (k.succ) = lo + 1 + k by omega]

def okV (u : Option Value) (v : Value) : Bool := match u with
  | some u => veq u v
  | none => false
theorem okOne_some (q : Req) (v : Value) (M : Mem) : okAt.okOne q v (some M) = okV (q.run M) v := rfl
theorem okV_refl (v : Value) : okV (some v) v = true := veq_refl v
theorem okAt_zero (q : Req) (v : Value) (ms : List Mem) (k : Nat) : okAt q v ms k 0 = true := rfl
theorem okAt_succ (q : Req) (v : Value) (ms : List Mem) (k n : Nat) : okAt q v ms k (n + 1) = (okAt.okOne q v ms[k]? && okAt q v ms (k + 1) n) := rfl

end Go.Fx
