/- Regions whose order is open: whatever order is drawn, the run comes to what the text's order comes to, where what is read does not hang on the order. -/
import Derived.Test.YtnngjdfadfblmaaGreatDoorFxTmps
import Derived.Orders
namespace Go.Fx
open Go
set_option linter.unusedSimpArgs false
set_option linter.unusedVariables false

abbrev Tr := List Value × Mem × List Mem × List (Req × Value × Nat × Nat)

def runTr (call : CallF) : List AOper → List (Nat × Nat) → List Value → Mem → Option Tr
  | [], _, ts, m => some (ts, m, [m], [])
  | o :: r, lh, ts, m =>
    if wantedA ts o.guard then
      match o.op.cls with
      | .eff => (stepOp call ts m o.op).bind fun p => (runTr call r lh.tail (putT ts o.dst p.1) p.2).map fun x => (x.1, x.2.1, m :: x.2.2.1, x.2.2.2)
      | .read => (o.op.req ts).bind fun q => (q.run m).bind fun v => (runTr call r lh.tail (putT ts o.dst v) m).map fun x => (x.1, x.2.1, x.2.2.1, (q, v, lh.headD (0, 0)) :: x.2.2.2)
      | .pure => (o.op.run ts m).bind fun p => runTr call r lh.tail (putT ts o.dst p.1) m
    else
      match o.op.cls with
      | .eff => (runTr call r lh.tail (putT ts o.dst undef) m).map fun x => (x.1, x.2.1, m :: x.2.2.1, x.2.2.2)
      | _ => runTr call r lh.tail (putT ts o.dst undef) m

def okReq (ms : List Mem) (x : Req × Value × Nat × Nat) : Bool :=
  (List.range (x.2.2.2 + 1 - x.2.2.1)).all fun k => match ms[x.2.2.1 + k]? with
    | some M => match x.1.run M with
      | some u => veq u x.2.1
      | none => false
    | none => false

def runD (call : CallF) (ops : List AOper) (lh : List (Nat × Nat)) (ts : List Value) (m : Mem) : Option (List Value × Mem) :=
  (runTr call ops lh ts m).bind fun x => if x.2.2.2.all (okReq x.2.2.1) = true then some (x.1, x.2.1) else none

/-- Is all that is read read where the text has it? Then the text's order is the only one to look at. -/
def seqOk : Nat → List AOper → List (Nat × Nat) → Bool
  | _, [], _ => true
  | k, o :: r, lh => match o.op.cls with
    | .eff => seqOk (k + 1) r lh.tail
    | .read => lh.headD (0, 0) == (k, k) && seqOk k r lh.tail
    | .pure => seqOk k r lh.tail

theorem runTr_seq (call : CallF) : ∀ (ops : List AOper) (k : Nat) (lh : List (Nat × Nat)) (ts : List Value) (m : Mem), seqOk k ops lh = true → ∀ r, runOps call ops ts m = some r →
    ∃ ms rq, runTr call ops lh ts m = some (r.1, r.2, m :: ms, rq) ∧ ∀ pre : List Mem, pre.length = k → rq.all (okReq (pre ++ m :: ms)) = true := by
  intro ops
  induction ops with
  | nil =>
    intro k lh ts m _ r hr
    simp only [runOps, Option.some.injEq] at hr
    subst hr
    exact ⟨[], [], rfl, fun _ _ => rfl⟩
  | cons o r ih =>
    intro k lh ts m hs x hr
    unfold seqOk at hs
    unfold runOps at hr
    unfold runTr
    by_cases hw : wantedA ts o.guard = true
    · rw [if_pos hw] at hr
      rw [if_pos hw]
      cases hc : o.op.cls with
      | eff =>
        rw [hc] at hs
        simp only at hs ⊢
        obtain ⟨p, hp, hr⟩ := Option.bind_eq_some_iff.1 hr
        obtain ⟨ms, rq, h1, h2⟩ := ih (k + 1) lh.tail _ _ hs x hr
        refine ⟨p.2 :: ms, rq, by rw [hp, Option.bind_some, h1]; rfl, fun pre hpre => ?_⟩
        have := h2 (pre ++ [m]) (by simp [hpre])
        simpa using this
      | pure =>
        rw [hc] at hs
        simp only at hs ⊢
        obtain ⟨p, hp, hr⟩ := Option.bind_eq_some_iff.1 hr
        rw [stepOp_other call ts m (by cases ho : o.op <;> rw [ho] at hc <;> first | rfl | cases hc)] at hp
        obtain ⟨h3, _⟩ := run_pure (v := p.1) (m' := p.2) hc hp
        rw [h3] at hr
        obtain ⟨ms, rq, h1, h2⟩ := ih k lh.tail _ _ hs x hr
        exact ⟨ms, rq, by rw [hp, Option.bind_some, h1], h2⟩
      | read =>
        rw [hc] at hs
        simp only [Bool.and_eq_true, beq_iff_eq] at hs ⊢
        obtain ⟨hl, hs⟩ := hs
        obtain ⟨p, hp, hr⟩ := Option.bind_eq_some_iff.1 hr
        rw [stepOp_other call ts m (by cases ho : o.op <;> rw [ho] at hc <;> first | rfl | cases hc)] at hp
        obtain ⟨q, hq1, hq2, hq3⟩ : ∃ q, o.op.req ts = some q ∧ q.run m = some p.1 ∧ p.2 = m := by
          cases ho : o.op <;> rw [ho] at hc hp <;> first
            | (cases hc; done)
            | (simp only [AOp.run, Option.bind_eq_some_iff, Option.map_eq_some_iff] at hp
               first
                 | (obtain ⟨v, hv, u, hu, rfl⟩ := hp; refine ⟨_, by simp only [AOp.req, hv]; rfl, ?_, rfl⟩; exact hu)
                 | (obtain ⟨v, hv, l, hl, u, hu, rfl⟩ := hp; refine ⟨_, by simp only [AOp.req, hv, hl, Option.bind_some]; rfl, ?_, rfl⟩; exact hu)
                 | (obtain ⟨v, hv, l, hl, h, hh, u, hu, rfl⟩ := hp; refine ⟨_, by simp only [AOp.req, hv, hl, hh, Option.bind_some]; rfl, ?_, rfl⟩; exact hu)
                 | (obtain ⟨v, hv, l, hl, h, hh, k, hk, u, hu, rfl⟩ := hp; refine ⟨_, by simp only [AOp.req, hv, hl, hh, hk, Option.bind_some]; rfl, ?_, rfl⟩; exact hu))
        rw [hq3] at hr
        obtain ⟨ms, rq, h1, h2⟩ := ih k lh.tail _ _ hs x hr
        refine ⟨ms, (q, p.1, lh.headD (0, 0)) :: rq, by rw [hq1, Option.bind_some, hq2, Option.bind_some, h1]; rfl, fun pre hpre => ?_⟩
        rw [List.all_cons, h2 pre hpre, Bool.and_true, hl]
        subst hpre
        simp [okReq, hq2, veq_refl]
    · rw [if_neg hw] at hr
      rw [if_neg hw]
      cases hc : o.op.cls with
      | eff =>
        rw [hc] at hs
        simp only at hs ⊢
        obtain ⟨ms, rq, h1, h2⟩ := ih (k + 1) lh.tail _ _ hs x hr
        refine ⟨m :: ms, rq, by rw [h1]; rfl, fun pre hpre => ?_⟩
        have := h2 (pre ++ [m]) (by simp [hpre])
        simpa using this
      | pure =>
        rw [hc] at hs
        simp only at hs ⊢
        exact ih k lh.tail _ _ hs x hr
      | read =>
        rw [hc] at hs
        simp only [Bool.and_eq_true] at hs ⊢
        obtain ⟨ms, rq, h1, h2⟩ := ih k lh.tail _ _ hs.2 x hr
        exact ⟨ms, rq, h1, h2⟩

theorem runD_seq {call : CallF} {ops : List AOper} {lh : List (Nat × Nat)} (h : seqOk 0 ops lh = true) {ts : List Value} {m : Mem} {r : List Value × Mem} (hr : runOps call ops ts m = some r) : runD call ops lh ts m = some r := by
  obtain ⟨ms, rq, h1, h2⟩ := runTr_seq call ops 0 lh ts m h r hr
  have := h2 [] rfl
  simp only [List.nil_append] at this
  simp only [runD, h1, Option.bind_some, this, if_true]

def isEff (o : AOper) : Bool := decide (o.op.cls = .eff)

/-- How many of the first i have an effect. -/
def effN : List AOper → Nat → Nat
  | [], _ => 0
  | _ :: _, 0 => 0
  | o :: r, i + 1 => (if isEff o then 1 else 0) + effN r i

def Fact (call : CallF) (ms : List Mem) (rq : List (Req × Value × Nat × Nat)) (lh : Nat × Nat) (c : Nat) (o : AOper) (T : List Value) (V : Value) : Prop :=
  (wantedA T o.guard = true ∧ (o.op.cls = .eff → ∃ M M', ms[c]? = some M ∧ ms[c + 1]? = some M' ∧ stepOp call T M o.op = some (V, M')) ∧
    (o.op.cls = .read → ∃ q, o.op.req T = some q ∧ (q, V, lh) ∈ rq) ∧ (o.op.cls = .pure → ∀ M, o.op.run T M = some (V, M))) ∨
  (wantedA T o.guard = false ∧ V = undef ∧ (o.op.cls = .eff → ∃ M, ms[c]? = some M ∧ ms[c + 1]? = some M))

theorem Fact.shift {call : CallF} {ms : List Mem} {rq : List (Req × Value × Nat × Nat)} {lh : Nat × Nat} {c : Nat} {o : AOper} {T : List Value} {V : Value} (h : Fact call ms rq lh c o T V) (m : Mem) (q : List (Req × Value × Nat × Nat)) : Fact call (m :: ms) (q ++ rq) lh (1 + c) o T V := by
  rcases h with ⟨h1, h2, h3, h4⟩ | ⟨h1, h2, h3⟩
  · refine .inl ⟨h1, fun hc => ?_, fun hc => ?_, h4⟩
    · obtain ⟨M, M', a, b, d⟩ := h2 hc
      exact ⟨M, M', by rw [Nat.add_comm]; exact a, by rw [show 1 + c + 1 = (c + 1) + 1 by omega]; exact b, d⟩
    · obtain ⟨q', a, b⟩ := h3 hc
      exact ⟨q', a, List.mem_append_right _ b⟩
  · refine .inr ⟨h1, h2, fun hc => ?_⟩
    obtain ⟨M, a, b⟩ := h3 hc
    exact ⟨M, by rw [Nat.add_comm]; exact a, by rw [show 1 + c + 1 = (c + 1) + 1 by omega]; exact b⟩

theorem Fact.more {call : CallF} {ms : List Mem} {rq : List (Req × Value × Nat × Nat)} {lh : Nat × Nat} {c : Nat} {o : AOper} {T : List Value} {V : Value} (h : Fact call ms rq lh c o T V) (q : List (Req × Value × Nat × Nat)) : Fact call ms (q ++ rq) lh c o T V := by
  rcases h with ⟨h1, h2, h3, h4⟩ | h
  · refine .inl ⟨h1, h2, fun hc => ?_, h4⟩
    obtain ⟨q', a, b⟩ := h3 hc
    exact ⟨q', a, List.mem_append_right _ b⟩
  · exact .inr h

theorem facts (call : CallF) : ∀ (ops : List AOper) (lh : List (Nat × Nat)) (ts : List Value) (m : Mem) (ts' : List Value) (m' : Mem) (ms : List Mem) (rq : List (Req × Value × Nat × Nat)),
    runTr call ops lh ts m = some (ts', m', ms, rq) → ∃ (T : Nat → List Value) (V : Nat → Value), T 0 = ts ∧ T ops.length = ts' ∧ ms[0]? = some m ∧ ms[effN ops ops.length]? = some m' ∧
      ∀ i o, ops[i]? = some o → T (i + 1) = putT (T i) o.dst (V i) ∧ Fact call ms rq (lh[i]?.getD (0, 0)) (effN ops i) o (T i) (V i) := by
  intro ops
  induction ops with
  | nil =>
    intro lh ts m ts' m' ms rq h
    simp only [runTr, Option.some.injEq, Prod.mk.injEq] at h
    obtain ⟨rfl, rfl, rfl, rfl⟩ := h
    exact ⟨fun _ => ts, fun _ => undef, rfl, rfl, rfl, rfl, fun i o h => by simp at h⟩
  | cons o r ih =>
    intro lh ts m ts' m' ms rq h
    have hlh : ∀ i : Nat, lh.tail[i]?.getD (0, 0) = lh[i + 1]?.getD (0, 0) := by intro i; rw [List.getElem?_tail]
    have hlh0 : lh.headD (0, 0) = lh[0]?.getD (0, 0) := by cases lh <;> rfl
    -- one step, put ahead of the rest's
    have build : ∀ (v : Value) (m1 : Mem) (ms1 : List Mem) (rq1 q : List (Req × Value × Nat × Nat)), runTr call r lh.tail (putT ts o.dst v) m1 = some (ts', m', ms1, rq1) →
        (if isEff o then ms = m :: ms1 else ms = ms1 ∧ m1 = m) → rq = q ++ rq1 → (Fact call ms rq (lh[0]?.getD (0, 0)) 0 o ts v) →
        ∃ (T : Nat → List Value) (V : Nat → Value), T 0 = ts ∧ T (o :: r).length = ts' ∧ ms[0]? = some m ∧ ms[effN (o :: r) (o :: r).length]? = some m' ∧
          ∀ i p, (o :: r)[i]? = some p → T (i + 1) = putT (T i) p.dst (V i) ∧ Fact call ms rq (lh[i]?.getD (0, 0)) (effN (o :: r) i) p (T i) (V i) := by
      intro v m1 ms1 rq1 q hrun hms hrq hfact
      obtain ⟨T, V, h1, h2, h3, h4, h5⟩ := ih lh.tail _ m1 ts' m' ms1 rq1 hrun
      refine ⟨fun i => match i with | 0 => ts | i + 1 => T i, fun i => match i with | 0 => v | i + 1 => V i, rfl, h2, ?_, ?_, ?_⟩
      · split at hms
        · rw [hms]; rfl
        · rw [hms.1, h3, hms.2]
      · simp only [List.length_cons, effN]
        split at hms
        · rename_i he
          rw [hms, if_pos he, Nat.add_comm]; exact h4
        · rename_i he
          rw [hms.1, if_neg he, Nat.zero_add]; exact h4
      · intro i p hp
        cases i with
        | zero =>
          simp only [List.getElem?_cons_zero, Option.some.injEq] at hp
          subst hp
          exact ⟨h1, hfact⟩
        | succ i =>
          obtain ⟨g1, g2⟩ := h5 i p (by simpa using hp)
          refine ⟨g1, ?_⟩
          rw [hlh] at g2
          simp only [effN]
          split at hms
          · rename_i he
            rw [hms, hrq, if_pos he]; exact g2.shift m q
          · rename_i he
            rw [hms.1, hrq, if_neg he, Nat.zero_add]; exact g2.more q
    simp only [runTr] at h
    split at h
    · rename_i hw
      split at h
      · rename_i hc
        simp only [Option.bind_eq_some_iff, Option.map_eq_some_iff] at h
        obtain ⟨⟨v, m1⟩, hs, ⟨ts1, m2, ms1, rq1⟩, hr, he⟩ := h
        simp only [Prod.mk.injEq] at he
        obtain ⟨rfl, rfl, rfl, rfl⟩ := he
        have hm1 : ms1[0]? = some m1 := by
          obtain ⟨_, _, _, _, h3, _⟩ := ih lh.tail _ m1 _ _ ms1 rq1 hr
          exact h3
        exact build v m1 ms1 rq1 [] hr (by simp [isEff, hc]) rfl (.inl ⟨hw, fun _ => ⟨m, m1, rfl, by simpa using hm1, hs⟩, (fun h => absurd (hc.symm.trans h) (by decide)), (fun h => absurd (hc.symm.trans h) (by decide))⟩)
      · rename_i hc
        simp only [Option.bind_eq_some_iff, Option.map_eq_some_iff] at h
        obtain ⟨q, hq, v, hv, ⟨ts1, m2, ms1, rq1⟩, hr, he⟩ := h
        simp only [Prod.mk.injEq] at he
        obtain ⟨rfl, rfl, rfl, rfl⟩ := he
        exact build v m ms1 rq1 [(q, v, lh.headD (0, 0))] hr (by simp [isEff, hc]) rfl (.inl ⟨hw, (fun h => absurd (hc.symm.trans h) (by decide)), fun _ => ⟨q, hq, by rw [← hlh0]; exact List.mem_cons_self ..⟩, (fun h => absurd (hc.symm.trans h) (by decide))⟩)
      · rename_i hc
        simp only [Option.bind_eq_some_iff] at h
        obtain ⟨⟨v, m1⟩, hs, hr⟩ := h
        obtain ⟨rfl, hall⟩ := run_pure hc hs
        exact build v m1 ms rq [] hr (by simp [isEff, hc]) rfl (.inl ⟨hw, (fun h => absurd (hc.symm.trans h) (by decide)), (fun h => absurd (hc.symm.trans h) (by decide)), fun _ => hall⟩)
    · rename_i hw
      have hw : wantedA ts o.guard = false := by simpa using hw
      split at h
      · rename_i hc
        simp only [Option.map_eq_some_iff] at h
        obtain ⟨⟨ts1, m2, ms1, rq1⟩, hr, he⟩ := h
        simp only [Prod.mk.injEq] at he
        obtain ⟨rfl, rfl, rfl, rfl⟩ := he
        have hm1 : ms1[0]? = some m := by
          obtain ⟨_, _, _, _, h3, _⟩ := ih lh.tail _ m _ _ ms1 rq1 hr
          exact h3
        exact build undef m ms1 rq1 [] hr (by simp [isEff, hc]) rfl (.inr ⟨hw, rfl, fun _ => ⟨m, rfl, by simpa using hm1⟩⟩)
      · rename_i hc
        exact build undef m ms rq [] h (by simp [isEff]; intro h; exact absurd h hc) rfl (.inr ⟨hw, rfl, fun h => absurd h hc⟩)

/- what comes before what -/
inductive Anc (E : Nat → List Nat) : Nat → Nat → Prop where
  | base {i e : Nat} (h : e ∈ E i) : Anc E i e
  | step {i e j : Nat} (h : e ∈ E i) (h' : Anc E e j) : Anc E i j

theorem Anc.lt {E : Nat → List Nat} (hE : ∀ i e, e ∈ E i → e < i) {i j : Nat} (h : Anc E i j) : j < i := by
  induction h with
  | base h => exact hE _ _ h
  | step h _ ih => exact Nat.lt_trans ih (hE _ _ h)

theorem Anc.listed {E : Nat → List Nat} {L : Nat → Prop} (hL : ∀ x, L x → ∀ e ∈ E x, L e) {i j : Nat} (h : Anc E i j) (hi : ∀ e ∈ E i, L e) : L j := by
  induction h with
  | base h => exact hi _ h
  | step h _ ih => exact ih (hL _ (hi _ h))

def maskStep (acc : List Nat) (es : List Nat) : List Nat := acc ++ [es.foldl (fun s e => s ||| 2 ^ e ||| acc[e]?.getD 0) 0]
def masks (l : List (List Nat)) : List Nat := l.foldl maskStep []

theorem foldl_mask (acc : List Nat) (j : Nat) : ∀ (es : List Nat) (s : Nat), (es.foldl (fun s e => s ||| 2 ^ e ||| acc[e]?.getD 0) s).testBit j = true → s.testBit j = true ∨ ∃ e ∈ es, e = j ∨ (acc[e]?.getD 0).testBit j = true := by
  intro es
  induction es with
  | nil => intro s h; exact .inl h
  | cons e es ih =>
    intro s h
    rcases ih _ h with h | ⟨e', he', h⟩
    · simp only [Nat.testBit_or, Bool.or_eq_true, Nat.testBit_two_pow, decide_eq_true_eq] at h
      rcases h with (h | h) | h
      · exact .inl h
      · exact .inr ⟨e, List.mem_cons_self .., .inl h⟩
      · exact .inr ⟨e, List.mem_cons_self .., .inr h⟩
    · exact .inr ⟨e', List.mem_cons_of_mem _ he', h⟩

theorem masks_anc (E : Nat → List Nat) : ∀ (l : List (List Nat)) (acc : List Nat) , (∀ i es, l[i]? = some es → es = E (acc.length + i)) → (∀ i k, acc[i]? = some k → ∀ j, k.testBit j = true → Anc E i j) →
    ∀ i k, (l.foldl maskStep acc)[i]? = some k → ∀ j, k.testBit j = true → Anc E i j := by
  intro l
  induction l with
  | nil => intro acc _ h; exact h
  | cons es l ih =>
    intro acc hl hacc
    simp only [List.foldl_cons]
    refine ih (maskStep acc es) (fun i es' h => ?_) (fun i k hk j hj => ?_)
    · have := hl (i + 1) es' (by simpa using h)
      rw [this]; congr 1; simp [maskStep]; omega
    · simp only [maskStep] at hk
      by_cases hi : i < acc.length
      · rw [List.getElem?_append_left hi] at hk
        exact hacc i k hk j hj
      · rw [List.getElem?_append_right (by omega)] at hk
        have hi' : i - acc.length = 0 := by
          rcases Nat.eq_zero_or_pos (i - acc.length) with h | h
          · exact h
          · rw [List.getElem?_eq_none (by simp; omega)] at hk; cases hk
        rw [hi'] at hk
        simp only [List.getElem?_cons_zero, Option.some.injEq] at hk
        subst hk
        have hEi : es = E i := by
          have := hl 0 es rfl
          rw [this]; congr 1; omega
        rcases foldl_mask acc j es 0 hj with h | ⟨e, he, h⟩
        · simp at h
        · rcases h with rfl | h
          · exact .base (by rw [← hEi]; exact he)
          · cases ha : acc[e]? with
            | none => rw [ha] at h; simp at h
            | some k' =>
              rw [ha] at h
              exact .step (by rw [← hEi]; exact he) (hacc e k' ha j h)

def edgesOf (o : Oper) : List Nat := o.after.toList.filterMap fun e => if Region.binds .any e then some e.on else none

def AOper.looks (o : AOper) : List Nat := o.op.slots ++ (match o.guard with | some (t, _) => [t] | none => [])

/-- May the order be left open? 'c' counts what is ahead of a read: at least, at most. -/
def lohiAt (effs : List Bool) (ms : List Nat) (i : Nat) : Nat × Nat :=
  (((List.range effs.length).filter fun j => (effs[j]?.getD false) && (ms[i]?.getD 0).testBit j).length,
   ((List.range effs.length).filter fun j => (effs[j]?.getD false) && !(ms[j]?.getD 0).testBit i).length)

def pairOk (ms : List Nat) (o p : AOper) (i j : Nat) : Bool :=
  (match p.dst with
   | some t => (!(o.looks.contains t) || (ms[i]?.getD 0).testBit j || (ms[j]?.getD 0).testBit i) && o.dst != some t
   | none => true) && (!(isEff o && isEff p) || (ms[i]?.getD 0).testBit j || (ms[j]?.getD 0).testBit i)

def dOk (es : List (List Nat)) (ops : List AOper) : Bool :=
  let ms := masks es
  (List.range ops.length).all fun i =>
    ((es[i]?.getD []).all fun e => e < i) &&
    (List.range ops.length).all fun j => i == j || (match ops[i]?, ops[j]? with
      | some o, some p => pairOk ms o p i j
      | _, _ => false)

def dLohi (es : List (List Nat)) (ops : List AOper) : List (Nat × Nat) := (List.range ops.length).map (lohiAt (ops.map isEff) (masks es))

theorem effN_eq : ∀ (ops : List AOper) (i : Nat), effN ops i = ((List.range ops.length).filter fun j => ((ops.map isEff)[j]?.getD false) && decide (j < i)).length := by
  intro ops
  induction ops with
  | nil => intro i; simp [effN]
  | cons o r ih =>
    intro i
    cases i with
    | zero =>
      have : ∀ l : List Nat, (l.filter fun _ => false).length = 0 := by intro l; induction l <;> simp_all
      simp [effN, this]
    | succ i =>
      simp only [effN, ih i, List.length_cons, List.range_succ_eq_map, List.filter_cons, List.map_cons, List.getElem?_cons_zero, Option.getD_some, Nat.zero_lt_succ, decide_true, Bool.and_true, List.filter_map, List.length_map]
      have : ((fun j => ((isEff o :: r.map isEff)[j]?.getD false) && decide (j < i + 1)) ∘ Nat.succ) = fun j => ((r.map isEff)[j]?.getD false) && decide (j < i) := by
        funext j; simp
      rw [this]
      by_cases h : isEff o = true
      · simp [h]; omega
      · simp [h]

theorem filter_le {p q : Nat → Bool} (l : List Nat) (h : ∀ x ∈ l, p x = true → q x = true) : (l.filter p).length ≤ (l.filter q).length := by
  induction l with
  | nil => simp
  | cons x l ih =>
    have := ih (fun y hy => h y (List.mem_cons_of_mem _ hy))
    simp only [List.filter_cons]
    by_cases hp : p x = true
    · rw [if_pos hp, if_pos (h x (List.mem_cons_self ..) hp)]; simp; exact this
    · rw [if_neg hp]
      by_cases hq : q x = true
      · rw [if_pos hq]; simp; omega
      · rw [if_neg hq]; exact this

theorem filter_eq {p q : Nat → Bool} (l : List Nat) (h : ∀ x ∈ l, p x = q x) : (l.filter p).length = (l.filter q).length :=
  Nat.le_antisymm (filter_le l fun x hx hp => by rw [← h x hx]; exact hp) (filter_le l fun x hx hq => by rw [h x hx]; exact hq)

end Go.Fx
