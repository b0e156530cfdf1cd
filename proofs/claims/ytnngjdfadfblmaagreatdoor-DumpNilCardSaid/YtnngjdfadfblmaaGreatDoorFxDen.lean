/- The abstract machine without a bound on rounds: its equations. -/
import Derived.Test.YtnngjdfadfblmaaGreatDoorFxTop
namespace Go.Fx
open Go
set_option linter.unusedSimpArgs false
set_option linter.unusedVariables false

def LeC (c d : CallF) : Prop := ∀ f a m r, c f a m = some r → d f a m = some r

theorem stepOp_mono {c d : CallF} (h : LeC c d) {ts : List Value} {m : Mem} {o : AOp} {r : Value × Mem} (e : stepOp c ts m o = some r) : stepOp d ts m o = some r := by
  cases o <;> try exact e
  · simp only [stepOp, Option.bind_eq_some_iff] at e ⊢
    obtain ⟨l, hl, e⟩ := e
    exact ⟨l, hl, h _ _ _ _ e⟩
  · simp only [stepOp, Option.bind_eq_some_iff] at e ⊢
    obtain ⟨v, hv, p, hp, l, hl, e⟩ := e
    exact ⟨v, hv, p, hp, l, hl, h _ _ _ _ e⟩

theorem runOps_mono {c d : CallF} (h : LeC c d) : ∀ {ops : List AOper} {ts : List Value} {m : Mem} {r : List Value × Mem}, runOps c ops ts m = some r → runOps d ops ts m = some r
  | [], _, _, _, e => e
  | o :: ops, ts, m, r, e => by
    simp only [runOps] at e ⊢
    split
    · rename_i hw
      rw [if_pos hw] at e
      simp only [Option.bind_eq_some_iff] at e ⊢
      obtain ⟨p, hp, e⟩ := e
      exact ⟨p, stepOp_mono h hp, runOps_mono h e⟩
    · rename_i hw
      rw [if_neg hw] at e
      exact runOps_mono h e

theorem runTr_mono {c d : CallF} (h : LeC c d) : ∀ {ops : List AOper} {lh : List (Nat × Nat)} {ts : List Value} {m : Mem} {r : Tr}, runTr c ops lh ts m = some r → runTr d ops lh ts m = some r
  | [], _, _, _, _, e => e
  | o :: ops, lh, ts, m, r, e => by
    simp only [runTr] at e ⊢
    split
    · rename_i hw
      rw [if_pos hw] at e
      split
      · rename_i hc
        rw [hc] at e
        simp only [Option.bind_eq_some_iff, Option.map_eq_some_iff] at e ⊢
        obtain ⟨p, hp, x, hx, rfl⟩ := e
        exact ⟨p, stepOp_mono h hp, x, runTr_mono h hx, rfl⟩
      · rename_i hc
        rw [hc] at e
        simp only [Option.bind_eq_some_iff, Option.map_eq_some_iff] at e ⊢
        obtain ⟨q, hq, v, hv, x, hx, rfl⟩ := e
        exact ⟨q, hq, v, hv, x, runTr_mono h hx, rfl⟩
      · rename_i hc
        rw [hc] at e
        simp only [Option.bind_eq_some_iff] at e ⊢
        obtain ⟨p, hp, e⟩ := e
        exact ⟨p, hp, runTr_mono h e⟩
    · rename_i hw
      rw [if_neg hw] at e
      split
      · rename_i hc
        rw [hc] at e
        simp only [Option.map_eq_some_iff] at e ⊢
        obtain ⟨x, hx, rfl⟩ := e
        exact ⟨x, runTr_mono h hx, rfl⟩
      · rename_i hc
        split at e
        · rename_i hc'; exact absurd hc' hc
        · exact runTr_mono h e

theorem runD_mono {c d : CallF} (h : LeC c d) {ops : List AOper} {lh : List (Nat × Nat)} {ts : List Value} {m : Mem} {r : List Value × Mem} (e : runD c ops lh ts m = some r) : runD d ops lh ts m = some r := by
  simp only [runD, Option.bind_eq_some_iff] at e ⊢
  obtain ⟨x, hx, e⟩ := e
  exact ⟨x, runTr_mono h hx, e⟩

theorem loopN_mono {f g : List Value → Mem → Option Out} (h : ∀ ts m r, f ts m = some r → g ts m = some r) : ∀ {n k : Nat} {ts : List Value} {m : Mem} {r : Out}, n ≤ k → loopN f n ts m = some r → loopN g k ts m = some r
  | 0, _, _, _, _, _, e => by simp [loopN] at e
  | n + 1, k, ts, m, r, hk, e => by
    obtain ⟨j, rfl⟩ : ∃ j, k = j + 1 := ⟨k - 1, by omega⟩
    simp only [loopN, Option.bind_eq_some_iff] at e ⊢
    obtain ⟨⟨e1, ts1, m1⟩, h1, e⟩ := e
    refine ⟨_, h _ _ _ h1, ?_⟩
    cases e1 with
    | normal => exact loopN_mono h (by omega) e
    | exit _ => exact e
    | ret => exact e

theorem exec_mono {c d : CallF} (h : LeC c d) {n k : Nat} (hk : n ≤ k) : ∀ {a : ACode} {ts : List Value} {m : Mem} {r : Out}, exec c n a ts m = some r → exec d k a ts m = some r := by
  intro a
  induction a with
  | skip => intro ts m r e; exact e
  | exit id => intro ts m r e; exact e
  | ret => intro ts m r e; exact e
  | stop => intro ts m r e; exact e
  | region ops =>
    intro ts m r e
    simp only [exec, Option.map_eq_some_iff] at e ⊢
    obtain ⟨x, hx, rfl⟩ := e
    exact ⟨x, runOps_mono h hx, rfl⟩
  | draw ops lh =>
    intro ts m r e
    simp only [exec, Option.map_eq_some_iff] at e ⊢
    obtain ⟨x, hx, rfl⟩ := e
    exact ⟨x, runD_mono h hx, rfl⟩
  | drawF ops lh =>
    intro ts m r e
    simp only [exec, Option.map_eq_some_iff] at e ⊢
    obtain ⟨x, hx, rfl⟩ := e
    exact ⟨x, runD_mono h hx, rfl⟩
  | seq x y ihx ihy =>
    intro ts m r e
    simp only [exec, Option.bind_eq_some_iff] at e ⊢
    obtain ⟨⟨e1, ts1, m1⟩, h1, e⟩ := e
    refine ⟨_, ihx h1, ?_⟩
    cases e1 with
    | normal => exact ihy e
    | exit _ => exact e
    | ret => exact e
  | cond x p q ihp ihq =>
    intro ts m r e
    simp only [exec, Option.bind_eq_some_iff] at e ⊢
    obtain ⟨v, hv, t, ht, e⟩ := e
    refine ⟨v, hv, t, ht, ?_⟩
    cases t
    · exact ihq e
    · exact ihp e
  | block id x ih =>
    intro ts m r e
    simp only [exec, Option.map_eq_some_iff] at e ⊢
    obtain ⟨x, hx, rfl⟩ := e
    exact ⟨x, ih hx, rfl⟩
  | loop x ih =>
    intro ts m r e
    simp only [exec] at e ⊢
    exact loopN_mono (fun _ _ _ hh => ih hh) hk e

theorem call_S {S : CallF} {tab : Tab} {f : FuncId} {a : List Value} {m : Mem} {r : Value × Mem} (h : S f a m = some r) : ∀ n, call S tab n f a m = some r
  | 0 => h
  | n + 1 => by simp only [call, h]

theorem call_le (S : CallF) (tab : Tab) : ∀ {n k : Nat}, n ≤ k → LeC (call S tab n) (call S tab k)
  | 0, k, _, f, a, m, r, e => call_S e k
  | n + 1, k, hk, f, a, m, r, e => by
    obtain ⟨j, rfl⟩ : ∃ j, k = j + 1 := ⟨k - 1, by omega⟩
    simp only [call] at e ⊢
    split
    · rename_i hs; rw [hs] at e; exact e
    · rename_i hs
      rw [hs] at e
      simp only [body, Option.bind_eq_some_iff] at e ⊢
      obtain ⟨fn, hf, o, ho, e⟩ := e
      exact ⟨fn, hf, o, exec_mono (call_le S tab (by omega)) (by omega) ho, e⟩

/- the limits -/
open Classical in
noncomputable def lim {α : Type} (p : Nat → Option α) : Option α := if h : ∃ r n, p n = some r then some (Classical.choose h) else none

theorem lim_iff {α : Type} {p : Nat → Option α} (hp : ∀ n k r, n ≤ k → p n = some r → p k = some r) (r : α) : lim p = some r ↔ ∃ n, p n = some r := by
  unfold lim
  constructor
  · intro h
    split at h
    · rename_i hex
      cases h
      exact Classical.choose_spec hex
    · cases h
  · rintro ⟨n, hn⟩
    have hex : ∃ r n, p n = some r := ⟨r, n, hn⟩
    rw [dif_pos hex]
    obtain ⟨k, hk⟩ := Classical.choose_spec hex
    have h1 := hp n (max n k) r (Nat.le_max_left ..) hn
    have h2 := hp k (max n k) _ (Nat.le_max_right ..) hk
    rw [h1] at h2
    exact h2.symm

noncomputable def Call (S : CallF) (tab : Tab) : CallF := fun f a m => lim fun n => call S tab n f a m
noncomputable def Exec (S : CallF) (tab : Tab) (c : ACode) (ts : List Value) (m : Mem) : Option Out := lim fun n => exec (call S tab n) n c ts m

section
variable {S : CallF} {tab : Tab}

theorem Call_iff {f : FuncId} {a : List Value} {m : Mem} {r : Value × Mem} : Call S tab f a m = some r ↔ ∃ n, call S tab n f a m = some r :=
  lim_iff (fun _ _ _ hk h => call_le S tab hk _ _ _ _ h) r
theorem Exec_iff {c : ACode} {ts : List Value} {m : Mem} {r : Out} : Exec S tab c ts m = some r ↔ ∃ n, exec (call S tab n) n c ts m = some r :=
  lim_iff (fun _ _ _ hk h => exec_mono (call_le S tab hk) hk h) r

theorem call_Call (n : Nat) : LeC (call S tab n) (Call S tab) := fun _ _ _ _ h => Call_iff.2 ⟨n, h⟩

theorem stepOp_iff {ts : List Value} {m : Mem} {o : AOp} {r : Value × Mem} : stepOp (Call S tab) ts m o = some r ↔ ∃ n, stepOp (call S tab n) ts m o = some r := by
  constructor
  · intro h
    cases o <;> try exact ⟨0, h⟩
    · simp only [stepOp, Option.bind_eq_some_iff] at h ⊢
      obtain ⟨l, hl, h⟩ := h
      obtain ⟨n, hn⟩ := Call_iff.1 h
      exact ⟨n, l, hl, hn⟩
    · simp only [stepOp, Option.bind_eq_some_iff] at h ⊢
      obtain ⟨v, hv, p, hp, l, hl, h⟩ := h
      obtain ⟨n, hn⟩ := Call_iff.1 h
      exact ⟨n, v, hv, p, hp, l, hl, hn⟩
  · rintro ⟨n, h⟩
    exact stepOp_mono (call_Call n) h

theorem runOps_iff : ∀ {ops : List AOper} {ts : List Value} {m : Mem} {r : List Value × Mem}, runOps (Call S tab) ops ts m = some r ↔ ∃ n, runOps (call S tab n) ops ts m = some r
  | [], ts, m, r => ⟨fun h => ⟨0, h⟩, fun ⟨_, h⟩ => h⟩
  | o :: ops, ts, m, r => by
    constructor
    · intro h
      simp only [runOps] at h ⊢
      split at h
      · rename_i hw
        simp only [hw, if_true]
        simp only [Option.bind_eq_some_iff] at h ⊢
        obtain ⟨p, hp, h⟩ := h
        obtain ⟨n, hn⟩ := stepOp_iff.1 hp
        obtain ⟨k, hk⟩ := runOps_iff.1 h
        exact ⟨max n k, p, stepOp_mono (call_le S tab (Nat.le_max_left ..)) hn, runOps_mono (call_le S tab (Nat.le_max_right ..)) hk⟩
      · rename_i hw
        simp only [hw]
        obtain ⟨k, hk⟩ := runOps_iff.1 h
        exact ⟨k, hk⟩
    · rintro ⟨n, h⟩
      exact runOps_mono (call_Call n) h

theorem runTr_iff : ∀ {ops : List AOper} {lh : List (Nat × Nat)} {ts : List Value} {m : Mem} {r : Tr}, runTr (Call S tab) ops lh ts m = some r ↔ ∃ n, runTr (call S tab n) ops lh ts m = some r
  | [], lh, ts, m, r => ⟨fun h => ⟨0, h⟩, fun ⟨_, h⟩ => h⟩
  | o :: ops, lh, ts, m, r => by
    constructor
    · intro h
      simp only [runTr] at h ⊢
      split at h
      · rename_i hw
        simp only [hw, if_true]
        split at h
        · simp only [Option.bind_eq_some_iff, Option.map_eq_some_iff] at h ⊢
          obtain ⟨p, hp, x, hx, rfl⟩ := h
          obtain ⟨n, hn⟩ := stepOp_iff.1 hp
          obtain ⟨k, hk⟩ := runTr_iff.1 hx
          exact ⟨max n k, p, stepOp_mono (call_le S tab (Nat.le_max_left ..)) hn, x, runTr_mono (call_le S tab (Nat.le_max_right ..)) hk, rfl⟩
        · simp only [Option.bind_eq_some_iff, Option.map_eq_some_iff] at h ⊢
          obtain ⟨q, hq, v, hv, x, hx, rfl⟩ := h
          obtain ⟨k, hk⟩ := runTr_iff.1 hx
          exact ⟨k, q, hq, v, hv, x, hk, rfl⟩
        · simp only [Option.bind_eq_some_iff] at h ⊢
          obtain ⟨p, hp, h⟩ := h
          obtain ⟨k, hk⟩ := runTr_iff.1 h
          exact ⟨k, p, hp, hk⟩
      · rename_i hw
        simp only [hw]
        split at h
        · simp only [Option.map_eq_some_iff] at h
          obtain ⟨x, hx, rfl⟩ := h
          obtain ⟨k, hk⟩ := runTr_iff.1 hx
          exact ⟨k, by rw [if_neg (by simp)]; exact Option.map_eq_some_iff.2 ⟨x, hk, rfl⟩⟩
        · rename_i hc
          obtain ⟨k, hk⟩ := runTr_iff.1 h
          refine ⟨k, ?_⟩
          rw [if_neg (by simp)]
          exact hk
    · rintro ⟨n, h⟩
      exact runTr_mono (call_Call n) h

theorem Exec_skip {ts : List Value} {m : Mem} : Exec S tab .skip ts m = some (.normal, ts, m) := Exec_iff.2 ⟨0, rfl⟩
theorem Exec_exit {id : Nat} {ts : List Value} {m : Mem} : Exec S tab (.exit id) ts m = some (.exit id, ts, m) := Exec_iff.2 ⟨0, rfl⟩
theorem Exec_ret {ts : List Value} {m : Mem} : Exec S tab .ret ts m = some (.ret, ts, m) := Exec_iff.2 ⟨0, rfl⟩

theorem Exec_region {ops : List AOper} {ts : List Value} {m : Mem} : Exec S tab (.region ops) ts m = (runOps (Call S tab) ops ts m).map fun r => (.normal, r.1, r.2) := by
  apply Option.ext
  intro r
  rw [Exec_iff]
  simp only [exec, Option.map_eq_some_iff]
  constructor
  · rintro ⟨n, x, hx, rfl⟩
    exact ⟨x, runOps_mono (call_Call n) hx, rfl⟩
  · rintro ⟨x, hx, rfl⟩
    obtain ⟨n, hn⟩ := runOps_iff.1 hx
    exact ⟨n, x, hn, rfl⟩

theorem Exec_draw {ops : List AOper} {lh : List (Nat × Nat)} {ts : List Value} {m : Mem} : Exec S tab (.draw ops lh) ts m = (runD (Call S tab) ops lh ts m).map fun r => (.normal, r.1, r.2) := by
  apply Option.ext
  intro r
  rw [Exec_iff]
  simp only [exec, Option.map_eq_some_iff]
  constructor
  · rintro ⟨n, x, hx, rfl⟩
    exact ⟨x, runD_mono (call_Call n) hx, rfl⟩
  · rintro ⟨x, hx, rfl⟩
    simp only [runD, Option.bind_eq_some_iff] at hx ⊢
    obtain ⟨y, hy, hx⟩ := hx
    obtain ⟨n, hn⟩ := runTr_iff.1 hy
    exact ⟨n, x, ⟨y, hn, hx⟩, rfl⟩

theorem Exec_drawF {ops : List AOper} {lh : List (Nat × Nat)} {ts : List Value} {m : Mem} : Exec S tab (.drawF ops lh) ts m = (runD (Call S tab) (ops.map (setB m.next)) lh ts (m.bump ops.length)).map fun r => (.normal, r.1, r.2) := by
  apply Option.ext
  intro r
  rw [Exec_iff]
  simp only [exec, Option.map_eq_some_iff]
  constructor
  · rintro ⟨n, x, hx, rfl⟩
    exact ⟨x, runD_mono (call_Call n) hx, rfl⟩
  · rintro ⟨x, hx, rfl⟩
    simp only [runD, Option.bind_eq_some_iff] at hx ⊢
    obtain ⟨y, hy, hx⟩ := hx
    obtain ⟨n, hn⟩ := runTr_iff.1 hy
    exact ⟨n, x, ⟨y, hn, hx⟩, rfl⟩

/-- What goes on behind a piece that ended in the common way. -/
def andThen (o : Option Out) (k : List Value → Mem → Option Out) : Option Out := o.bind fun r => match r with
  | (.normal, ts, m) => k ts m
  | r => some r

theorem andThen_normal (ts : List Value) (m : Mem) (k : List Value → Mem → Option Out) : andThen (some (.normal, ts, m)) k = k ts m := rfl
theorem andThen_exit (id : Nat) (ts : List Value) (m : Mem) (k : List Value → Mem → Option Out) : andThen (some (.exit id, ts, m)) k = some (.exit id, ts, m) := rfl
theorem andThen_ret (ts : List Value) (m : Mem) (k : List Value → Mem → Option Out) : andThen (some (.ret, ts, m)) k = some (.ret, ts, m) := rfl

theorem Exec_seq {a b : ACode} {ts : List Value} {m : Mem} : Exec S tab (.seq a b) ts m = andThen (Exec S tab a ts m) fun ts' m' => Exec S tab b ts' m' := by
  apply Option.ext
  intro r
  rw [Exec_iff]
  simp only [exec, andThen, Option.bind_eq_some_iff]
  constructor
  · rintro ⟨n, ⟨e1, ts1, m1⟩, h1, h⟩
    refine ⟨_, Exec_iff.2 ⟨n, h1⟩, ?_⟩
    cases e1 with
    | normal => exact Exec_iff.2 ⟨n, h⟩
    | exit _ => exact h
    | ret => exact h
  · rintro ⟨⟨e1, ts1, m1⟩, h1, h⟩
    obtain ⟨n, hn⟩ := Exec_iff.1 h1
    cases e1 with
    | normal =>
      obtain ⟨k, hk⟩ := Exec_iff.1 h
      exact ⟨max n k, _, exec_mono (call_le S tab (Nat.le_max_left ..)) (Nat.le_max_left ..) hn, exec_mono (call_le S tab (Nat.le_max_right ..)) (Nat.le_max_right ..) hk⟩
    | exit _ => exact ⟨n, _, hn, h⟩
    | ret => exact ⟨n, _, hn, h⟩

theorem Exec_cond {c : Operand} {a b : ACode} {ts : List Value} {m : Mem} : Exec S tab (.cond c a b) ts m = (aval ts c).bind fun v => (asB v).bind fun t => if t then Exec S tab a ts m else Exec S tab b ts m := by
  apply Option.ext
  intro r
  rw [Exec_iff]
  simp only [exec, Option.bind_eq_some_iff]
  constructor
  · rintro ⟨n, v, hv, t, ht, h⟩
    refine ⟨v, hv, t, ht, ?_⟩
    cases t <;> exact Exec_iff.2 ⟨n, h⟩
  · rintro ⟨v, hv, t, ht, h⟩
    cases t
    · obtain ⟨n, hn⟩ := Exec_iff.1 h
      exact ⟨n, v, hv, false, ht, hn⟩
    · obtain ⟨n, hn⟩ := Exec_iff.1 h
      exact ⟨n, v, hv, true, ht, hn⟩

/-- The end of a block. -/
def unblock (id : Nat) : Out → Out
  | (.exit j, ts, m) => if j = id then (.normal, ts, m) else (.exit j, ts, m)
  | r => r

theorem Exec_block {id : Nat} {a : ACode} {ts : List Value} {m : Mem} : Exec S tab (.block id a) ts m = (Exec S tab a ts m).map (unblock id) := by
  apply Option.ext
  intro r
  rw [Exec_iff]
  simp only [exec, Option.map_eq_some_iff]
  constructor
  · rintro ⟨n, x, hx, h⟩
    refine ⟨x, Exec_iff.2 ⟨n, hx⟩, ?_⟩
    obtain ⟨e, ts1, m1⟩ := x
    cases e <;> exact h
  · rintro ⟨x, hx, h⟩
    obtain ⟨n, hn⟩ := Exec_iff.1 hx
    refine ⟨n, x, hn, ?_⟩
    obtain ⟨e, ts1, m1⟩ := x
    cases e <;> exact h

theorem Exec_loop {a : ACode} {ts : List Value} {m : Mem} : Exec S tab (.loop a) ts m = andThen (Exec S tab a ts m) fun ts' m' => Exec S tab (.loop a) ts' m' := by
  apply Option.ext
  intro r
  rw [Exec_iff]
  simp only [andThen, Option.bind_eq_some_iff]
  constructor
  · rintro ⟨n, h⟩
    simp only [exec] at h
    cases n with
    | zero => simp [loopN] at h
    | succ n =>
      simp only [loopN, Option.bind_eq_some_iff] at h
      obtain ⟨⟨e1, ts1, m1⟩, h1, h⟩ := h
      refine ⟨_, Exec_iff.2 ⟨n + 1, h1⟩, ?_⟩
      cases e1 with
      | normal => exact Exec_iff.2 ⟨n + 1, loopN_mono (fun _ _ _ hh => hh) (by omega) h⟩
      | exit _ => exact h
      | ret => exact h
  · rintro ⟨⟨e1, ts1, m1⟩, h1, h⟩
    obtain ⟨n, hn⟩ := Exec_iff.1 h1
    cases e1 with
    | normal =>
      obtain ⟨k, hk⟩ := Exec_iff.1 h
      refine ⟨max n k + 1, ?_⟩
      have g1 : n ≤ max n k + 1 := by have := Nat.le_max_left n k; omega
      have g2 : k ≤ max n k := Nat.le_max_right n k
      simp only [exec, loopN, Option.bind_eq_some_iff]
      refine ⟨_, exec_mono (call_le S tab g1) g1 hn, ?_⟩
      simp only [exec] at hk
      exact loopN_mono (fun _ _ _ hh => exec_mono (call_le S tab (by omega)) (by omega) hh) g2 hk
    | exit _ =>
      refine ⟨n + 1, ?_⟩
      simp only [exec, loopN, Option.bind_eq_some_iff]
      exact ⟨_, exec_mono (call_le S tab (Nat.le_succ n)) (Nat.le_succ n) hn, h⟩
    | ret =>
      refine ⟨n + 1, ?_⟩
      simp only [exec, loopN, Option.bind_eq_some_iff]
      exact ⟨_, exec_mono (call_le S tab (Nat.le_succ n)) (Nat.le_succ n) hn, h⟩

/-- What a function answers, once its body has ended. -/
def leave (rs : List ARes) (o : Option Out) : Option (Value × Mem) := o.bind fun r => match r with
  | (.exit _, _, _) => none
  | (_, ts, m) => (resVs ts m rs).map fun l => (oneOf l, m)

theorem leave_normal (rs : List ARes) (ts : List Value) (m : Mem) : leave rs (some (.normal, ts, m)) = (resVs ts m rs).map fun l => (oneOf l, m) := rfl
theorem leave_ret (rs : List ARes) (ts : List Value) (m : Mem) : leave rs (some (.ret, ts, m)) = (resVs ts m rs).map fun l => (oneOf l, m) := rfl

theorem Call_eq {f : FuncId} {fn : AFunc} (hf : tab f = some fn) (args : List Value) (m : Mem) (hS : S f args m = none) : Call S tab f args m = leave fn.results (Exec S tab fn.body (args ++ List.replicate (fn.ntmps - args.length) undef) m) := by
  apply Option.ext
  intro r
  rw [Call_iff]
  simp only [leave, Option.bind_eq_some_iff]
  constructor
  · rintro ⟨n, h⟩
    cases n with
    | zero => simp only [call, hS] at h; cases h
    | succ n =>
      simp only [call, hS, hf, Option.bind_some, body, Option.bind_eq_some_iff] at h
      obtain ⟨x, hx, h⟩ := h
      refine ⟨x, Exec_iff.2 ⟨n, hx⟩, ?_⟩
      obtain ⟨e, ts1, m1⟩ := x
      cases e <;> exact h
  · rintro ⟨x, hx, h⟩
    obtain ⟨n, hn⟩ := Exec_iff.1 hx
    refine ⟨n + 1, ?_⟩
    simp only [call, hS, hf, Option.bind_some, body, Option.bind_eq_some_iff]
    refine ⟨x, hn, ?_⟩
    obtain ⟨e, ts1, m1⟩ := x
    cases e <;> exact h

theorem Call_S {f : FuncId} {args : List Value} {m : Mem} {r : Value × Mem} (h : S f args m = some r) : Call S tab f args m = some r := Call_iff.2 ⟨0, h⟩

/- the same equations, without a function that goes on: what is still to be run stands as it is until its turn comes -/
noncomputable def thenC (S : CallF) (tab : Tab) (b : ACode) (o : Option Out) : Option Out := andThen o fun ts m => Exec S tab b ts m
noncomputable def condK (S : CallF) (tab : Tab) (a b : ACode) (ts : List Value) (m : Mem) (v : Option Value) : Option Out := v.bind fun v => (asB v).bind fun t => if t then Exec S tab a ts m else Exec S tab b ts m
def opsK (call : CallF) (r : List AOper) (d : Option Nat) (ts : List Value) (o : Option (Value × Mem)) : Option (List Value × Mem) := o.bind fun p => runOps call r (putT ts d p.1) p.2
def guardK (call : CallF) (o : AOp) (ts : List Value) (m : Mem) (w : Bool) : Option (Value × Mem) := if w then stepOp call ts m o else some (undef, m)
def mapN (o : Option (List Value × Mem)) : Option Out := o.map fun r => (.normal, r.1, r.2)
def mapB (id : Nat) (o : Option Out) : Option Out := o.map (unblock id)

theorem thenC_normal (b : ACode) (ts : List Value) (m : Mem) : thenC S tab b (some (.normal, ts, m)) = Exec S tab b ts m := rfl
theorem thenC_exit (b : ACode) (id : Nat) (ts : List Value) (m : Mem) : thenC S tab b (some (.exit id, ts, m)) = some (.exit id, ts, m) := rfl
theorem thenC_ret (b : ACode) (ts : List Value) (m : Mem) : thenC S tab b (some (.ret, ts, m)) = some (.ret, ts, m) := rfl
theorem condK_true (a b : ACode) (ts : List Value) (m : Mem) : condK S tab a b ts m (some (.bool true)) = Exec S tab a ts m := rfl
theorem condK_false (a b : ACode) (ts : List Value) (m : Mem) : condK S tab a b ts m (some (.bool false)) = Exec S tab b ts m := rfl
theorem condK_bool (a b : ACode) (ts : List Value) (m : Mem) (t : Bool) : condK S tab a b ts m (some (.bool t)) = if t then Exec S tab a ts m else Exec S tab b ts m := rfl
theorem opsK_some (call : CallF) (r : List AOper) (d : Option Nat) (ts : List Value) (v : Value) (m : Mem) : opsK call r d ts (some (v, m)) = runOps call r (putT ts d v) m := rfl
theorem guardK_true (call : CallF) (o : AOp) (ts : List Value) (m : Mem) : guardK call o ts m true = stepOp call ts m o := rfl
theorem guardK_false (call : CallF) (o : AOp) (ts : List Value) (m : Mem) : guardK call o ts m false = some (undef, m) := rfl
theorem mapN_some (ts : List Value) (m : Mem) : mapN (some (ts, m)) = some (.normal, ts, m) := rfl
theorem mapB_normal (id : Nat) (ts : List Value) (m : Mem) : mapB id (some (.normal, ts, m)) = some (.normal, ts, m) := rfl
theorem mapB_ret (id : Nat) (ts : List Value) (m : Mem) : mapB id (some (.ret, ts, m)) = some (.ret, ts, m) := rfl
theorem mapB_exit (id j : Nat) (ts : List Value) (m : Mem) : mapB id (some (.exit j, ts, m)) = if j = id then some (.normal, ts, m) else some (.exit j, ts, m) := by
  by_cases h : j = id <;> simp [mapB, unblock, h]

theorem X_seq (a b : ACode) (ts : List Value) (m : Mem) : Exec S tab (.seq a b) ts m = thenC S tab b (Exec S tab a ts m) := Exec_seq
theorem X_loop (a : ACode) (ts : List Value) (m : Mem) : Exec S tab (.loop a) ts m = thenC S tab (.loop a) (Exec S tab a ts m) := Exec_loop
theorem X_cond (c : Operand) (a b : ACode) (ts : List Value) (m : Mem) : Exec S tab (.cond c a b) ts m = condK S tab a b ts m (aval ts c) := Exec_cond
theorem X_region (ops : List AOper) (ts : List Value) (m : Mem) : Exec S tab (.region ops) ts m = mapN (runOps (Call S tab) ops ts m) := Exec_region
theorem X_draw (ops : List AOper) (lh : List (Nat × Nat)) (ts : List Value) (m : Mem) : Exec S tab (.draw ops lh) ts m = mapN (runD (Call S tab) ops lh ts m) := Exec_draw
theorem X_drawF (ops : List AOper) (lh : List (Nat × Nat)) (ts : List Value) (m : Mem) : Exec S tab (.drawF ops lh) ts m = mapN (runD (Call S tab) (ops.map (setB m.next)) lh ts (m.bump ops.length)) := Exec_drawF
theorem X_block (id : Nat) (a : ACode) (ts : List Value) (m : Mem) : Exec S tab (.block id a) ts m = mapB id (Exec S tab a ts m) := Exec_block
theorem X_cons (call : CallF) (d : Option Nat) (o : AOp) (g : Option (Nat × Bool)) (r : List AOper) (ts : List Value) (m : Mem) : runOps call (⟨d, o, g⟩ :: r) ts m = opsK call r d ts (guardK call o ts m (wantedA ts g)) := by
  simp only [runOps, opsK, guardK]
  cases wantedA ts g <;> rfl
theorem X_nil (call : CallF) (ts : List Value) (m : Mem) : runOps call [] ts m = some (ts, m) := rfl
theorem b_tf : (true == false) = false := rfl
theorem b_ft : (false == true) = false := rfl
theorem wanted_none (ts : List Value) : wantedA ts none = true := rfl
theorem wanted_some (ts : List Value) (t : Nat) (b : Bool) : wantedA ts (some (t, b)) = match ts[t]? with | some (.bool c) => c == b | _ => false := rfl

end

section
variable {H : Type} {enc : TypeId × Value → H} {P : Program} {W : World}

theorem okWide_not_agg {r : Reach} {base : Nat} {t : TypeId} {v : Value} {W : World} (h : Value.okWide P W r base t v) (ht : aggT P t = some false) : ∀ xs, v ≠ .agg xs := by
  rintro xs rfl
  unfold aggT at ht
  unfold Value.okWide at h
  cases hd : P.underlying t with
  | none => rw [hd] at ht; cases ht
  | some d =>
    rw [hd] at ht h
    cases d <;> simp at ht <;> simp [Cell.okWide, Cell.ok, hd] at h

theorem sized_each {ts us : List TypeId} {ds gs : List (DataW H)} (h : (DataW.weightsEach P (ts ++ us) (ds ++ gs)).all (· ≤ reachBytes) = true) : ∀ (j : Nat) t d, ts[j]? = some t → ds[j]? = some d → ∀ z ∈ d.weights P t, z ≤ reachBytes := by
  intro j t d ht hd z hz
  have lt : ∀ {α : Type} {l : List α} {j : Nat} {a : α}, l[j]? = some a → j < l.length := fun {α l j a} h => by
    rcases Nat.lt_or_ge j l.length with h' | h'
    · exact h'
    · rw [List.getElem?_eq_none h'] at h; cases h
  have := List.all_eq_true.1 h z (DataW.weights_mem_each (j := j) (by rw [List.getElem?_append_left (lt ht)]; exact ht) (by rw [List.getElem?_append_left (lt hd)]; exact hd) z hz)
  simpa using this

/-- What the abstract machine's run of a law gives of the machine's own. -/
theorem law_calls {f : FuncId} (hf : f < yBase := by decide) {S : CallF} {tab : Tab} (hSok : CallOk P S) (hS : ∀ f args m r, f < yBase → S f args m = some r → goodFn P f = true) (hm : P.follows .mixedOrders = true) (htab : TabOk P tab) (hgood : ∀ f x, tab f = some x → goodFn P f = true) {n : Nat} {ts : List TypeId} {vs : List Value} {ds : List (DataW H)} {ps : List MemPlace}
    (h : DataW.TrodAll enc P W 0 (fun _ => true) true ts vs ds ps) (hsz : ∀ (j : Nat) t d, ts[j]? = some t → ds[j]? = some d → ∀ z ∈ d.weights P t, z ≤ reachBytes) (hok : ∀ t ∈ ts, okT P n t = true) (hform : ∀ (i : Nat) t v, ts[i]? = some t → vs[i]? = some v → aggT P t = some false → ∀ xs, v ≠ .agg xs)
    (hlaw : ∀ (m : Mem) (args : List Value), AllRo m → args.length = ts.length → (∀ (i : Nat) t (a : Value), ts[i]? = some t → args[i]? = some a → WT P m n t a.cells.toList ∧ (aggT P t = some false → ∀ xs, a ≠ .agg xs)) → ∃ m', Call S tab f args m = some (.bool true, m')) :
    Calls P f vs.toArray W fun e w' => e = .returned (.bool true) ∧ Go.RowKit.Below W.heap.size W w' := by
  obtain ⟨φ, m, args, hi, hr, _, _, hv, hl, hw⟩ := args_abs (P := P) (n := n) h hsz hok _ _ (Inv.empty W) allRo_empty
  obtain ⟨m', hcall'⟩ := hlaw m args hr hl (fun i t a ht ha => ⟨hw i t a ht ha, fun hag xs hx => by
    obtain ⟨V, hV, hR⟩ := hv.get ha
    subst hx
    cases hR with
    | agg _ ys _ _ => exact hform i t _ ht hV hag ys rfl⟩)
  obtain ⟨N, hcall⟩ := Call_iff.1 hcall'
  refine ((sound_call hm hSok hS htab hgood N).fn f args m (.bool true) m' hf hcall φ W vs.toArray hi (by simpa using hv)).mono ?_
  rintro e w' ⟨V, φ', rfl, hV, _, hf⟩
  cases hV
  exact ⟨rfl, hf.below hr⟩

theorem law_calls_at {f : FuncId} (hf : f < yBase := by decide) {B : Nat} (gs : List (Nat × GKind)) (hgs : GlobsOk W gs) {S : CallF} {tab : Tab} (hSok : CallOk P S) (hS : ∀ f args m r, f < yBase → S f args m = some r → goodFn P f = true) (hm : P.follows .mixedOrders = true) (htab : TabOk P tab) (hgood : ∀ f x, tab f = some x → goodFn P f = true) {n : Nat} {ts : List TypeId} {vs : List Value} {ds : List (DataW H)} {ps : List MemPlace}
    (h : DataW.TrodAll enc P W 0 (fun _ => true) true ts vs ds ps) (hsz : ∀ (j : Nat) t d, ts[j]? = some t → ds[j]? = some d → ∀ z ∈ d.weights P t, z ≤ B) (hok : ∀ t ∈ ts, okT P n t = true) (hform : ∀ (i : Nat) t v, ts[i]? = some t → vs[i]? = some v → aggT P t = some false → ∀ xs, v ≠ .agg xs)
    (hlaw : ∀ (m : Mem) (args : List Value), AllRo m → (globMem gs).sub m → args.length = ts.length → (∀ (i : Nat) t (a : Value), ts[i]? = some t → args[i]? = some a → WTB P B m n t a.cells.toList ∧ (aggT P t = some false → ∀ xs, a ≠ .agg xs)) → ∃ m', Call S tab f args m = some (.bool true, m')) :
    Calls P f vs.toArray W fun e w' => e = .returned (.bool true) ∧ Go.RowKit.Below W.heap.size W w' := by
  obtain ⟨φ0, hi0, hr0, _, _⟩ := globs_inv gs _ _ (Inv.empty W) allRo_empty hgs
  obtain ⟨φ, m, args, hi, hr, _, hsub, hv, hl, hw⟩ := args_abs (P := P) (n := n) h hsz hok _ _ hi0 hr0
  obtain ⟨m', hcall'⟩ := hlaw m args hr hsub hl (fun i t a ht ha => ⟨hw i t a ht ha, fun hag xs hx => by
    obtain ⟨V, hV, hR⟩ := hv.get ha
    subst hx
    cases hR with
    | agg _ ys _ _ => exact hform i t _ ht hV hag ys rfl⟩)
  obtain ⟨N, hcall⟩ := Call_iff.1 hcall'
  refine ((sound_call hm hSok hS htab hgood N).fn f args m (.bool true) m' hf hcall φ W vs.toArray hi (by simpa using hv)).mono ?_
  rintro e w' ⟨V, φ', rfl, hV, _, hf⟩
  cases hV
  exact ⟨rfl, hf.below hr⟩

end

end Go.Fx
