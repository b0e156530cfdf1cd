/- Which slots a piece of code still looks at: frames that agree there come to the same. -/
import Derived.Test.YtnngjdfadfblmaaGreatDoorFxDr
namespace Go.Fx
open Go
set_option linter.unusedSimpArgs false
set_option linter.unusedVariables false

/- sets of slots, as the bits of a number -/
def bitOf (t : Nat) : Nat := 1 <<< t
def lks : List Nat → Nat → Nat
  | [], L => L
  | t :: l, L => lks l L ||| bitOf t
def clr (L : Nat) : Option Nat → Nat
  | none => L
  | some t => if L.testBit t then L ^^^ bitOf t else L

theorem bitOf_bit (t j : Nat) : (bitOf t).testBit j = decide (t = j) := by
  unfold bitOf; rw [Nat.one_shiftLeft]; exact Nat.testBit_two_pow
theorem lks_bit (j : Nat) : ∀ (l : List Nat) (L : Nat), (lks l L).testBit j = true ↔ j ∈ l ∨ L.testBit j = true
  | [], L => by simp [lks]
  | t :: l, L => by
    simp only [lks, Nat.testBit_or, Bool.or_eq_true, lks_bit j l L, bitOf_bit, decide_eq_true_eq, List.mem_cons]
    constructor
    · rintro ((h | h) | h)
      · exact .inl (.inr h)
      · exact .inr h
      · exact .inl (.inl h.symm)
    · rintro ((h | h) | h)
      · exact .inr h.symm
      · exact .inl (.inl h)
      · exact .inl (.inr h)
theorem clr_bit {L : Nat} {d : Option Nat} {j : Nat} (h : L.testBit j = true) (hd : d ≠ some j) : (clr L d).testBit j = true := by
  cases d with
  | none => exact h
  | some t =>
    have ht : t ≠ j := fun e => hd (by rw [e])
    simp only [clr]
    split
    · simp [Nat.testBit_xor, h, bitOf_bit, ht]
    · exact h

/-- Frames that agree on a set. -/
def AgM (L : Nat) (ts us : List Value) : Prop := ∀ t, L.testBit t = true → ts[t]? = us[t]?
theorem AgM.mono {L K : Nat} {ts us : List Value} (h : AgM L ts us) (hk : ∀ t, K.testBit t = true → L.testBit t = true) : AgM K ts us := fun t ht => h t (hk t ht)
theorem AgM.symm {L : Nat} {ts us : List Value} (h : AgM L ts us) : AgM L us ts := fun t ht => (h t ht).symm
theorem AgM.agree {l : List Nat} {L : Nat} {ts us : List Value} (h : AgM (lks l L) ts us) : Agree l ts us := fun t ht => h t ((lks_bit t l L).2 (.inl ht))
theorem AgM.rest {l : List Nat} {L : Nat} {ts us : List Value} (h : AgM (lks l L) ts us) : AgM L ts us := h.mono fun t ht => (lks_bit t l L).2 (.inr ht)
theorem AgM.lor_left {L K : Nat} {ts us : List Value} (h : AgM (L ||| K) ts us) : AgM L ts us := h.mono fun t ht => by simp [Nat.testBit_or, ht]
theorem AgM.lor_right {L K : Nat} {ts us : List Value} (h : AgM (L ||| K) ts us) : AgM K ts us := h.mono fun t ht => by simp [Nat.testBit_or, ht]
theorem AgM.put {L : Nat} {d : Option Nat} {ts us : List Value} (h : AgM (clr L d) ts us) (hl : ts.length = us.length) (v : Value) : AgM L (putT ts d v) (putT us d v) := by
  intro t ht
  rw [putT_get, putT_get, hl]
  by_cases e : d = some t ∧ t < us.length
  · rw [if_pos e, if_pos e]
  · rw [if_neg e, if_neg e]
    by_cases hd : d = some t
    · have : ¬ t < us.length := fun hlt => e ⟨hd, hlt⟩
      rw [List.getElem?_eq_none (by omega), List.getElem?_eq_none (by omega)]
    · exact h t (clr_bit ht hd)

def liveOps : List AOper → Nat → Nat
  | [], L => L
  | o :: r, L => lks o.looks (clr (liveOps r L) o.dst)

theorem wanted_agree {o : AOper} {ts us : List Value} (h : Agree o.looks ts us) : wantedA ts o.guard = wantedA us o.guard := by
  unfold AOper.looks at h
  have h2 := h.right
  cases hg : o.guard with
  | none => rfl
  | some p =>
    obtain ⟨t, w⟩ := p
    rw [hg] at h2
    simp only [wantedA]
    rw [h2 t (by simp)]

/-- Runs of operations held against one another. -/
def ROps (L : Nat) : Option (List Value × Mem) → Option (List Value × Mem) → Prop
  | none, none => True
  | some (ts, m), some (us, m') => m = m' ∧ ts.length = us.length ∧ AgM L ts us
  | _, _ => False

theorem runOps_live (call : CallF) (L : Nat) : ∀ (ops : List AOper) (ts us : List Value) (m : Mem), ts.length = us.length → AgM (liveOps ops L) ts us → ROps L (runOps call ops ts m) (runOps call ops us m)
  | [], ts, us, m, hl, h => ⟨rfl, hl, h⟩
  | o :: r, ts, us, m, hl, h => by
    simp only [liveOps] at h
    have ha := h.agree
    simp only [runOps, wanted_agree ha]
    have hs : stepOp call ts m o.op = stepOp call us m o.op := stepOp_agree call m ha.left
    rw [hs]
    split
    · cases stepOp call us m o.op with
      | none => exact trivial
      | some p => exact runOps_live call L r _ _ _ (by simp [putT_length, hl]) (h.rest.put hl _)
    · exact runOps_live call L r _ _ _ (by simp [putT_length, hl]) (h.rest.put hl _)

def RTr (L : Nat) : Option Tr → Option Tr → Prop
  | none, none => True
  | some (ts, m, x), some (us, m', y) => m = m' ∧ x = y ∧ ts.length = us.length ∧ AgM L ts us
  | _, _ => False

theorem RTr.map {L : Nat} {a b : Option Tr} (h : RTr L a b) (f : List Mem × List (Req × Value × Nat × Nat) → List Mem × List (Req × Value × Nat × Nat)) :
    RTr L (a.map fun x => (x.1, x.2.1, f x.2.2)) (b.map fun x => (x.1, x.2.1, f x.2.2)) := by
  cases a with
  | none => cases b with
    | none => exact trivial
    | some _ => exact h.elim
  | some x => cases b with
    | none => exact h.elim
    | some y =>
      obtain ⟨h1, h2, h3, h4⟩ := h
      exact ⟨h1, congrArg f h2, h3, h4⟩

theorem runTr_live (call : CallF) (L : Nat) : ∀ (ops : List AOper) (lh : List (Nat × Nat)) (ts us : List Value) (m : Mem), ts.length = us.length → AgM (liveOps ops L) ts us → RTr L (runTr call ops lh ts m) (runTr call ops lh us m)
  | [], lh, ts, us, m, hl, h => ⟨rfl, rfl, hl, h⟩
  | o :: r, lh, ts, us, m, hl, h => by
    simp only [liveOps] at h
    have ha := h.agree
    simp only [runTr, wanted_agree ha]
    have hs : stepOp call ts m o.op = stepOp call us m o.op := stepOp_agree call m ha.left
    have hq : o.op.req ts = o.op.req us := req_agree ha.left
    have hp : ∀ v, AgM (liveOps r L) (putT ts o.dst v) (putT us o.dst v) := fun v => h.rest.put hl v
    have hll : ∀ v, (putT ts o.dst v).length = (putT us o.dst v).length := fun v => by simp [putT_length, hl]
    split
    · split
      · rw [hs]
        cases stepOp call us m o.op with
        | none => exact trivial
        | some p => exact (runTr_live call L r lh.tail _ _ p.2 (hll _) (hp _)).map fun x => (m :: x.1, x.2)
      · rw [hq]
        cases o.op.req us with
        | none => exact trivial
        | some q =>
          simp only [Option.bind_some]
          cases q.run m with
          | none => exact trivial
          | some v => exact (runTr_live call L r lh.tail _ _ m (hll _) (hp _)).map fun x => (x.1, (q, v, lh.headD (0, 0)) :: x.2)
      · rename_i hc
        have hs' : o.op.run ts m = o.op.run us m := by
          have hn : o.op.isCall = false := by cases he : o.op <;> first | rfl | (rw [he] at hc; cases hc)
          rw [stepOp_other call ts m hn, stepOp_other call us m hn] at hs
          exact hs
        rw [hs']
        cases o.op.run us m with
        | none => exact trivial
        | some p => exact runTr_live call L r lh.tail _ _ m (hll _) (hp _)
    · split
      · exact (runTr_live call L r lh.tail _ _ m (hll _) (hp _)).map fun x => (m :: x.1, x.2)
      · exact runTr_live call L r lh.tail _ _ m (hll _) (hp _)

theorem runD_live (call : CallF) (L : Nat) (ops : List AOper) (lh : List (Nat × Nat)) (ts us : List Value) (m : Mem) (hl : ts.length = us.length) (h : AgM (liveOps ops L) ts us) : ROps L (runD call ops lh ts m) (runD call ops lh us m) := by
  have := runTr_live call L ops lh ts us m hl h
  simp only [runD]
  cases ha : runTr call ops lh ts m with
  | none => rw [ha] at this; cases hb : runTr call ops lh us m with
    | none => exact trivial
    | some _ => rw [hb] at this; exact this.elim
  | some x => rw [ha] at this; cases hb : runTr call ops lh us m with
    | none => rw [hb] at this; exact this.elim
    | some y =>
      rw [hb] at this
      obtain ⟨h1, h2, h3, h4⟩ := this
      simp only [Option.bind_some, h2]
      split
      · exact ⟨h1, h3, h4⟩
      · exact trivial

theorem liveOps_setB (b L : Nat) : ∀ ops : List AOper, liveOps (ops.map (setB b)) L = liveOps ops L
  | [] => rfl
  | o :: r => by simp only [List.map_cons, liveOps, setB_looks, setB_dst, liveOps_setB b L r]

/- code -/
abbrev Env := List (Nat × Nat)
def lkp : Env → Nat → Nat
  | [], _ => 0
  | (i, L) :: r, j => if j = i then L else lkp r j

def fixL (f : Nat → Option Nat) : Nat → Nat → Option Nat
  | 0, _ => none
  | n + 1, L => (f L).bind fun K => if K ||| L = L then some L else fixL f n (K ||| L)

theorem fixL_ok {f : Nat → Option Nat} : ∀ {n L X : Nat}, fixL f n L = some X → ∃ K, f X = some K ∧ ∀ t, K.testBit t = true → X.testBit t = true
  | 0, _, _, h => by simp [fixL] at h
  | n + 1, L, X, h => by
    simp only [fixL, Option.bind_eq_some_iff] at h
    obtain ⟨K, hK, h⟩ := h
    split at h
    · rename_i he
      cases h
      refine ⟨K, hK, fun t ht => ?_⟩
      rw [← he, Nat.testBit_or, ht]; rfl
    · exact fixL_ok h

def liveC : ACode → Nat → Env → Nat → Option Nat
  | .skip, N, _, _ => some N
  | .region ops, N, _, _ => some (liveOps ops N)
  | .draw ops _, N, _, _ => some (liveOps ops N)
  | .drawF ops _, N, _, _ => some (liveOps ops N)
  | .seq a b, N, E, R => (liveC b N E R).bind fun K => liveC a K E R
  | .cond c a b, N, E, R => (liveC a N E R).bind fun A => (liveC b N E R).map fun B => lks (opT c) (A ||| B)
  | .block id a, N, E, R => liveC a N ((id, N) :: E) R
  | .loop a, _, E, R => fixL (fun K => liveC a K E R) 20 0
  | .exit id, _, E, _ => some (lkp E id)
  | .ret, _, _, R => some R
  | .stop, _, _, _ => some 0

def livePost (N : Nat) (E : Env) (R : Nat) : AEx → Nat
  | .normal => N
  | .exit id => lkp E id
  | .ret => R

/-- Runs held against one another. -/
def RO (N : Nat) (E : Env) (R : Nat) : Option Out → Option Out → Prop
  | none, none => True
  | some (e, ts, m), some (e', us, m') => e = e' ∧ m = m' ∧ ts.length = us.length ∧ AgM (livePost N E R e) ts us
  | _, _ => False

theorem loopN_live {f : List Value → Mem → Option Out} {L N : Nat} {E : Env} {R : Nat} (h : ∀ ts us m, ts.length = us.length → AgM L ts us → RO L E R (f ts m) (f us m)) :
    ∀ (n : Nat) (ts us : List Value) (m : Mem), ts.length = us.length → AgM L ts us → RO N E R (loopN f n ts m) (loopN f n us m)
  | 0, _, _, _, _, _ => trivial
  | n + 1, ts, us, m, hl, ha => by
    have := h ts us m hl ha
    simp only [loopN]
    cases hx : f ts m with
    | none => rw [hx] at this; cases hy : f us m with
      | none => exact trivial
      | some _ => rw [hy] at this; exact this.elim
    | some x => rw [hx] at this; cases hy : f us m with
      | none => rw [hy] at this; exact this.elim
      | some y =>
        rw [hy] at this
        obtain ⟨e, ts', m1⟩ := x
        obtain ⟨e', us', m2⟩ := y
        obtain ⟨rfl, rfl, h3, h4⟩ := this
        simp only [Option.bind_some]
        cases e with
        | normal => exact loopN_live h n _ _ _ h3 h4
        | exit id => exact ⟨rfl, rfl, h3, h4⟩
        | ret => exact ⟨rfl, rfl, h3, h4⟩

theorem exec_live (call : CallF) (n : Nat) : ∀ (a : ACode) (N : Nat) (E : Env) (R L : Nat), liveC a N E R = some L → ∀ (ts us : List Value) (m : Mem), ts.length = us.length → AgM L ts us → RO N E R (exec call n a ts m) (exec call n a us m) := by
  intro a
  induction a with
  | skip => intro N E R L h ts us m hl ha; cases h; exact ⟨rfl, rfl, hl, ha⟩
  | exit id => intro N E R L h ts us m hl ha; cases h; exact ⟨rfl, rfl, hl, ha⟩
  | ret => intro N E R L h ts us m hl ha; cases h; exact ⟨rfl, rfl, hl, ha⟩
  | stop => intro N E R L h ts us m hl ha; exact trivial
  | region ops =>
    intro N E R L h ts us m hl ha
    cases h
    have := runOps_live call N ops ts us m hl ha
    simp only [exec]
    cases hx : runOps call ops ts m with
    | none => rw [hx] at this; cases hy : runOps call ops us m with
      | none => exact trivial
      | some _ => rw [hy] at this; exact this.elim
    | some x => rw [hx] at this; cases hy : runOps call ops us m with
      | none => rw [hy] at this; exact this.elim
      | some y => rw [hy] at this; exact ⟨rfl, this.1, this.2.1, this.2.2⟩
  | draw ops lh =>
    intro N E R L h ts us m hl ha
    cases h
    have := runD_live call N ops lh ts us m hl ha
    simp only [exec]
    cases hx : runD call ops lh ts m with
    | none => rw [hx] at this; cases hy : runD call ops lh us m with
      | none => exact trivial
      | some _ => rw [hy] at this; exact this.elim
    | some x => rw [hx] at this; cases hy : runD call ops lh us m with
      | none => rw [hy] at this; exact this.elim
      | some y => rw [hy] at this; exact ⟨rfl, this.1, this.2.1, this.2.2⟩
  | drawF ops lh =>
    intro N E R L h ts us m hl ha
    cases h
    have := runD_live call N (ops.map (setB m.next)) lh ts us (m.bump ops.length) hl (by rw [liveOps_setB]; exact ha)
    simp only [exec]
    cases hx : runD call (ops.map (setB m.next)) lh ts (m.bump ops.length) with
    | none => rw [hx] at this; cases hy : runD call (ops.map (setB m.next)) lh us (m.bump ops.length) with
      | none => exact trivial
      | some _ => rw [hy] at this; exact this.elim
    | some x => rw [hx] at this; cases hy : runD call (ops.map (setB m.next)) lh us (m.bump ops.length) with
      | none => rw [hy] at this; exact this.elim
      | some y => rw [hy] at this; exact ⟨rfl, this.1, this.2.1, this.2.2⟩
  | seq x y ihx ihy =>
    intro N E R L h ts us m hl ha
    simp only [liveC, Option.bind_eq_some_iff] at h
    obtain ⟨K, hK, h⟩ := h
    have := ihx K E R L h ts us m hl ha
    simp only [exec]
    cases hx : exec call n x ts m with
    | none => rw [hx] at this; cases hy : exec call n x us m with
      | none => exact trivial
      | some _ => rw [hy] at this; exact this.elim
    | some p => rw [hx] at this; cases hy : exec call n x us m with
      | none => rw [hy] at this; exact this.elim
      | some q =>
        rw [hy] at this
        obtain ⟨e, ts', m1⟩ := p
        obtain ⟨e', us', m2⟩ := q
        obtain ⟨rfl, rfl, h3, h4⟩ := this
        simp only [Option.bind_some]
        cases e with
        | normal => exact ihy N E R K hK _ _ _ h3 h4
        | exit id => exact ⟨rfl, rfl, h3, h4⟩
        | ret => exact ⟨rfl, rfl, h3, h4⟩
  | cond c x y ihx ihy =>
    intro N E R L h ts us m hl ha
    simp only [liveC, Option.bind_eq_some_iff, Option.map_eq_some_iff] at h
    obtain ⟨A, hA, B, hB, rfl⟩ := h
    simp only [exec]
    rw [aval_agree ha.agree]
    cases aval us c with
    | none => exact trivial
    | some v =>
      simp only [Option.bind_some]
      cases asB v with
      | none => exact trivial
      | some t =>
        cases t
        · exact ihy N E R B hB _ _ _ hl ha.rest.lor_right
        · exact ihx N E R A hA _ _ _ hl ha.rest.lor_left
  | block id x ih =>
    intro N E R L h ts us m hl ha
    simp only [liveC] at h
    have := ih N ((id, N) :: E) R L h ts us m hl ha
    simp only [exec]
    cases hx : exec call n x ts m with
    | none => rw [hx] at this; cases hy : exec call n x us m with
      | none => exact trivial
      | some _ => rw [hy] at this; exact this.elim
    | some p => rw [hx] at this; cases hy : exec call n x us m with
      | none => rw [hy] at this; exact this.elim
      | some q =>
        rw [hy] at this
        obtain ⟨e, ts', m1⟩ := p
        obtain ⟨e', us', m2⟩ := q
        obtain ⟨rfl, rfl, h3, h4⟩ := this
        simp only [Option.map_some]
        cases e with
        | normal => exact ⟨rfl, rfl, h3, h4⟩
        | exit j =>
          simp only
          split
          · rename_i hj
            simp only [livePost, lkp, if_pos hj] at h4
            exact ⟨rfl, rfl, h3, h4⟩
          · rename_i hj
            simp only [livePost, lkp, if_neg hj] at h4
            exact ⟨rfl, rfl, h3, h4⟩
        | ret => exact ⟨rfl, rfl, h3, h4⟩
  | loop x ih =>
    intro N E R L h ts us m hl ha
    simp only [liveC] at h
    obtain ⟨K, hK, hs⟩ := fixL_ok h
    simp only [exec]
    refine loopN_live (L := L) (fun ts us m hl ha => ?_) n ts us m hl ha
    exact ih L E R K hK ts us m hl (ha.mono hs)

theorem Exec_live {S : CallF} {tab : Tab} {a : ACode} {N : Nat} {E : Env} {R L : Nat} (h : liveC a N E R = some L) {ts us : List Value} {m : Mem} (hl : ts.length = us.length) (ha : AgM L ts us) : RO N E R (Exec S tab a ts m) (Exec S tab a us m) := by
  have key : ∀ {ts us : List Value} {r : Out}, ts.length = us.length → AgM L ts us → Exec S tab a ts m = some r → ∃ r', Exec S tab a us m = some r' ∧ RO N E R (some r) (some r') := by
    intro ts us r hl ha hx
    obtain ⟨n, hn⟩ := Exec_iff.1 hx
    have := exec_live (call S tab n) n a N E R L h ts us m hl ha
    rw [hn] at this
    cases hy : exec (call S tab n) n a us m with
    | none => rw [hy] at this; exact this.elim
    | some r' => rw [hy] at this; exact ⟨r', Exec_iff.2 ⟨n, hy⟩, this⟩
  cases hx : Exec S tab a ts m with
  | some r =>
    obtain ⟨r', h1, h2⟩ := key hl ha hx
    rw [h1]; exact h2
  | none =>
    cases hy : Exec S tab a us m with
    | none => exact trivial
    | some r =>
      obtain ⟨r', h1, _⟩ := key hl.symm ha.symm hy
      rw [hx] at h1; cases h1

end Go.Fx
