/- The theorem on a region whose order is open. -/
import Derived.Test.YtnngjdfadfblmaaGreatDoorFxDraw
namespace Go.Fx
open Go
set_option linter.unusedSimpArgs false
set_option linter.unusedVariables false

theorem mem_ready' {md : Region.Mode} {ops : Array Oper} {listed : Array Bool} {i : Nat} (h : i ∈ Region.ready md ops listed) :
    i < ops.size ∧ listed.getD i true = false ∧ ∃ o, ops[i]? = some o ∧ ∀ e ∈ o.after, Region.binds md e = true → listed.getD e.on false = true := by
  unfold Region.ready at h
  simp only [List.mem_filter, List.mem_range, Bool.and_eq_true, Bool.not_eq_true'] at h
  obtain ⟨h1, h2, h3⟩ := h
  refine ⟨h1, h2, ops[i], Array.getElem?_eq_getElem h1, fun e he hb => ?_⟩
  rw [Array.getElem?_eq_getElem h1] at h3
  simp only [Option.map_some, Option.getD_some, Array.all_eq_true', Bool.or_eq_true, Bool.not_eq_true'] at h3
  rcases h3 e he with h | h
  · rw [hb] at h; cases h
  · exact h

theorem ready_of {md : Region.Mode} {ops : Array Oper} {listed : Array Bool} {i : Nat} {o : Oper} (h1 : ops[i]? = some o) (h2 : listed.getD i true = false) (h3 : ∀ e ∈ o.after, Region.binds md e = true → listed.getD e.on false = true) : i ∈ Region.ready md ops listed := by
  have hi : i < ops.size := by
    rcases Nat.lt_or_ge i ops.size with h | h
    · exact h
    · rw [Array.getElem?_eq_none h] at h1; cases h1
  unfold Region.ready
  simp only [List.mem_filter, List.mem_range, Bool.and_eq_true, Bool.not_eq_true']
  refine ⟨hi, h2, ?_⟩
  rw [h1]
  simp only [Option.map_some, Option.getD_some, Array.all_eq_true', Bool.or_eq_true, Bool.not_eq_true']
  intro e he
  cases hb : Region.binds md e with
  | false => exact .inl rfl
  | true => exact .inr (h3 e he hb)

theorem compOps_get {P : Program} {ops : Array Oper} : ∀ {l : List Oper} {al : List AOper}, compOps P ops l = some al → al.length = l.length ∧ ∀ (i : Nat) o, l[i]? = some o → ∃ p, al[i]? = some p ∧ p.dst = o.dst ∧ resT P o = p.op ∧
    (match o.guard with | none => p.guard = none | some (j, want) => ∃ t, (ops[j]?).bind (·.dst) = some t ∧ p.guard = some (t, want))
  | [], al, h => by simp only [compOps, Option.some.injEq] at h; subst h; exact ⟨rfl, fun i o h => by simp at h⟩
  | o :: l, al, h => by
    simp only [compOps, Option.bind_eq_some_iff] at h
    obtain ⟨al', hal, h⟩ := h
    obtain ⟨h1, h2⟩ := compOps_get hal
    have hal2 : ∃ g, al = ⟨o.dst, resT P o, g⟩ :: al' ∧ (match o.guard with | none => g = none | some (j, want) => ∃ t, (ops[j]?).bind (·.dst) = some t ∧ g = some (t, want)) := by
      split at h
      · rename_i h0; cases h; exact ⟨none, rfl, by rw [h0]⟩
      · rename_i j want h0
        simp only [Option.map_eq_some_iff] at h
        obtain ⟨t, ht, rfl⟩ := h
        exact ⟨some (t, want), rfl, by rw [h0]; exact ⟨t, ht, rfl⟩⟩
    obtain ⟨g, rfl, hgu⟩ := hal2
    refine ⟨by simp [h1], fun i p hp => ?_⟩
    cases i with
    | zero =>
      simp only [List.getElem?_cons_zero, Option.some.injEq] at hp
      subst hp
      exact ⟨_, rfl, rfl, rfl, hgu⟩
    | succ i => simpa using h2 i p (by simpa using hp)

theorem putT_length (ts : List Value) (d : Option Nat) (v : Value) : (putT ts d v).length = ts.length := by cases d <;> simp [putT]
theorem putT_get (ts : List Value) (d : Option Nat) (v : Value) (t : Nat) : (putT ts d v)[t]? = if d = some t ∧ t < ts.length then some v else ts[t]? := by
  cases d with
  | none => simp [putT]
  | some d =>
    simp only [putT, List.getElem?_set, Option.some.injEq]
    by_cases h : d = t
    · subst h
      by_cases h2 : d < ts.length
      · simp [h2]
      · simp [h2]
    · simp [h]

/-- How many of a set have an effect. -/
def cnt (al : List AOper) (L : Nat → Bool) : Nat := ((List.range al.length).filter fun j => ((al.map isEff)[j]?.getD false) && L j).length

/-- What is known of the region's text and of its run in the text's order. -/
structure Rg (P : Program) (call : CallF) (ops : Array Oper) (al : List AOper) (E : Nat → List Nat) (lo hi : Nat → Nat) (ms : List Mem) (ts0 : List Value) (T : Nat → List Value) (V : Nat → Value) : Prop where
  len : al.length = ops.size
  op : ∀ (i : Nat) o, ops[i]? = some o → ∃ p, al[i]? = some p ∧ p.dst = o.dst ∧ resT P o = p.op ∧
    (match o.guard with | none => p.guard = none | some (j, want) => ∃ t, (ops[j]?).bind (·.dst) = some t ∧ p.guard = some (t, want))
  edges : ∀ (i : Nat) o, ops[i]? = some o → E i = edgesOf o
  lt : ∀ i e, e ∈ E i → e < i
  slot : ∀ (i j : Nat) (o p : AOper) t, i ≠ j → al[i]? = some o → al[j]? = some p → p.dst = some t → (t ∈ o.looks → Anc E i j ∨ Anc E j i) ∧ o.dst ≠ some t
  chain : ∀ (i j : Nat) (o p : AOper), i ≠ j → al[i]? = some o → al[j]? = some p → isEff o = true → isEff p = true → Anc E i j ∨ Anc E j i
  lo_le : ∀ i L, (∀ j, Anc E i j → L j = true) → lo i ≤ cnt al L
  le_hi : ∀ i L, (∀ j, L j = true → ¬ Anc E j i) → cnt al L ≤ hi i
  zero : T 0 = ts0
  next : ∀ (i : Nat) o, al[i]? = some o → T (i + 1) = putT (T i) o.dst (V i)
  eff : ∀ (i : Nat) o, al[i]? = some o → wantedA (T i) o.guard = true → o.op.cls = .eff → ∃ M M', ms[effN al i]? = some M ∧ ms[effN al i + 1]? = some M' ∧ stepOp call (T i) M o.op = some (V i, M')
  read : ∀ (i : Nat) o, al[i]? = some o → wantedA (T i) o.guard = true → o.op.cls = .read → ∃ q, o.op.req (T i) = some q ∧ ∀ k, lo i ≤ k → k ≤ hi i → ∃ M, ms[k]? = some M ∧ q.run M = some (V i)
  pure : ∀ (i : Nat) o, al[i]? = some o → wantedA (T i) o.guard = true → o.op.cls = .pure → ∀ M, o.op.run (T i) M = some (V i, M)
  idle : ∀ (i : Nat) o, al[i]? = some o → wantedA (T i) o.guard = false → V i = undef ∧ (o.op.cls = .eff → ∃ M, ms[effN al i]? = some M ∧ ms[effN al i + 1]? = some M)

section
variable {P : Program} {call : CallF} {ops : Array Oper} {al : List AOper} {E : Nat → List Nat} {lo hi : Nat → Nat} {ms : List Mem} {ts0 : List Value} {T : Nat → List Value} {V : Nat → Value}

def dstAt (al : List AOper) (i : Nat) : Option Nat := (al[i]?).bind (·.dst)

/-- The frame, where the operations of a set have been done. -/
def Fr (al : List AOper) (V : Nat → Value) (ts0 : List Value) (L : Nat → Bool) (ts : List Value) : Prop :=
  ts.length = ts0.length ∧ (∀ i d, L i = true → dstAt al i = some d → d < ts0.length → ts[d]? = some (V i)) ∧ (∀ d, (∀ i, L i = true → dstAt al i ≠ some d) → ts[d]? = ts0[d]?)

theorem Rg.dst_ne (R : Rg P call ops al E lo hi ms ts0 T V) {i j d : Nat} (hi : dstAt al i = some d) (hj : dstAt al j = some d) : i = j := by
  rcases Nat.decEq i j with h | h
  · simp only [dstAt, Option.bind_eq_some_iff] at hi hj
    obtain ⟨o, ho, hod⟩ := hi
    obtain ⟨p, hp, hpd⟩ := hj
    exact absurd hod (R.slot i j o p d h ho hp hpd).2
  · exact h

theorem Rg.fr (R : Rg P call ops al E lo hi ms ts0 T V) : ∀ i, i ≤ al.length → Fr al V ts0 (fun j => decide (j < i)) (T i) := by
  intro i
  induction i with
  | zero =>
    intro _
    rw [R.zero]
    exact ⟨rfl, fun i d h => by simp at h, fun _ _ => rfl⟩
  | succ i ih =>
    intro hi'
    obtain ⟨h1, h2, h3⟩ := ih (by omega)
    have ho : al[i]? = some (al[i]'(by omega)) := List.getElem?_eq_getElem (by omega)
    generalize al[i]'(by omega) = o at ho
    rw [R.next i o ho]
    refine ⟨by rw [putT_length, h1], fun j d hj hd hlt => ?_, fun d hd => ?_⟩
    · rw [putT_get, h1]
      simp only [decide_eq_true_eq] at hj
      by_cases hji : j = i
      · subst hji
        have : o.dst = some d := by simpa [dstAt, ho] using hd
        rw [if_pos ⟨this, hlt⟩]
      · rw [if_neg (fun hh => hji (R.dst_ne hd (by simpa [dstAt, ho] using hh.1)))]
        exact h2 j d (by simp; omega) hd hlt
    · rw [putT_get]
      have : o.dst ≠ some d := by
        have := hd i (by simp)
        simpa [dstAt, ho] using this
      rw [if_neg (fun hh => this hh.1)]
      exact h3 d (fun j hj => hd j (by simp at hj ⊢; omega))

theorem Fr.put (R : Rg P call ops al E lo hi ms ts0 T V) {L : Nat → Bool} {ts : List Value} (h : Fr al V ts0 L ts) {i : Nat} {o : AOper} (ho : al[i]? = some o) {L' : Nat → Bool} (hL : ∀ j, L' j = true ↔ j = i ∨ L j = true) : Fr al V ts0 L' (putT ts o.dst (V i)) := by
  obtain ⟨h1, h2, h3⟩ := h
  refine ⟨by rw [putT_length, h1], fun j d hj hd hlt => ?_, fun d hd => ?_⟩
  · rw [putT_get, h1]
    by_cases hji : j = i
    · subst hji
      have : o.dst = some d := by simpa [dstAt, ho] using hd
      rw [if_pos ⟨this, hlt⟩]
    · rw [if_neg (fun hh => hji (R.dst_ne hd (by simpa [dstAt, ho] using hh.1)))]
      exact h2 j d (((hL j).1 hj).resolve_left hji) hd hlt
  · rw [putT_get]
    have : o.dst ≠ some d := by
      have := hd i ((hL i).2 (.inl rfl))
      simpa [dstAt, ho] using this
    rw [if_neg (fun hh => this hh.1)]
    exact h3 d (fun j hj => hd j ((hL j).2 (.inr hj)))

/-- What an operation that is ready looks at is what it looked at in the text's order. -/
theorem Rg.agree (R : Rg P call ops al E lo hi ms ts0 T V) {L : Nat → Bool} {ts : List Value} (h : Fr al V ts0 L ts) (hL : ∀ x, L x = true → ∀ e ∈ E x, L e = true) {i : Nat} {o : AOper} (ho : al[i]? = some o) (hi' : L i = false) (hr : ∀ e ∈ E i, L e = true) : Agree o.looks ts (T i) := by
  intro t ht
  have hlen : i < al.length := by
    rcases Nat.lt_or_ge i al.length with h | h
    · exact h
    · rw [List.getElem?_eq_none h] at ho; cases ho
  obtain ⟨g1, g2, g3⟩ := R.fr i (by omega)
  obtain ⟨f1, f2, f3⟩ := h
  by_cases hlt : t < ts0.length
  · by_cases hex : ∃ j, dstAt al j = some t
    · obtain ⟨j, hj⟩ := hex
      by_cases hji : j = i
      · subst hji
        rw [f3 t (fun k hk hkd => by rw [R.dst_ne hkd hj] at hk; rw [hk] at hi'; cases hi'), g3 t (fun k hk hkd => by rw [R.dst_ne hkd hj] at hk; simp at hk)]
      · have hj' := hj
        simp only [dstAt, Option.bind_eq_some_iff] at hj
        obtain ⟨p, hp, hpd⟩ := hj
        rcases (R.slot i j o p t (Ne.symm hji) ho hp hpd).1 ht with ha | ha
        · have hLj : L j = true := ha.listed (L := fun x => L x = true) hL hr
          have hlt' := ha.lt R.lt
          rw [f2 j t hLj hj' hlt, g2 j t (by simpa using hlt') hj' hlt]
        · have hLj : L j = false := by
            cases hh : L j with
            | false => rfl
            | true =>
              have := ha.listed (L := fun x => L x = true) hL (hL j hh)
              rw [hi'] at this; cases this
          have hlt' := ha.lt R.lt
          rw [f3 t (fun k hk hkd => by rw [R.dst_ne hkd hj'] at hk; rw [hk] at hLj; cases hLj), g3 t (fun k hk hkd => by rw [R.dst_ne hkd hj'] at hk; simp at hk; omega)]
    · have hn : ∀ k, dstAt al k ≠ some t := fun k hk => hex ⟨k, hk⟩
      rw [f3 t (fun k _ => hn k), g3 t (fun k _ => hn k)]
  · rw [List.getElem?_eq_none (by omega), List.getElem?_eq_none (by omega)]

theorem cnt_put (al : List AOper) {L L' : Nat → Bool} {i : Nat} {o : AOper} (ho : al[i]? = some o) (hi : L i = false) (hL : ∀ j, L' j = true ↔ j = i ∨ L j = true) : cnt al L' = cnt al L + (if isEff o then 1 else 0) := by
  have hlen : i < al.length := by
    rcases Nat.lt_or_ge i al.length with h | h
    · exact h
    · rw [List.getElem?_eq_none h] at ho; cases ho
  unfold cnt
  have hL' : ∀ j, L' j = (decide (j = i) || L j) := by
    intro j
    rw [Bool.eq_iff_iff]; simp [hL j]
  have key : ∀ (l : List Nat), l.Nodup → (l.filter fun j => ((al.map isEff)[j]?.getD false) && L' j).length = (l.filter fun j => ((al.map isEff)[j]?.getD false) && L j).length + (if i ∈ l ∧ isEff o = true then 1 else 0) := by
    intro l
    induction l with
    | nil => intro _; simp
    | cons x l ih =>
      intro hnd
      rw [List.nodup_cons] at hnd
      have := ih hnd.2
      simp only [List.filter_cons, hL', List.mem_cons]
      simp only [hL'] at this
      by_cases hx : x = i
      · subst hx
        have hx' : (al.map isEff)[x]?.getD false = isEff o := by simp [ho]
        simp only [hx', hi, decide_true, Bool.true_or, Bool.and_true, Bool.and_false, Bool.false_eq_true, if_false, true_or, true_and]
        have hnot : ¬ (x ∈ l ∧ isEff o = true) := fun h => hnd.1 h.1
        rw [if_neg hnot] at this
        by_cases he : isEff o = true
        · rw [if_pos he, if_pos he, List.length_cons, this]
        · rw [if_neg he, if_neg he, this]
      · simp only [hx, decide_false, Bool.false_or, Ne.symm hx, false_or]
        have hx2 : (i = x) = False := by simp; exact fun h => hx h.symm
        by_cases he : ((al.map isEff)[x]?.getD false && L x) = true
        · rw [if_pos he, if_pos he, List.length_cons, List.length_cons, this]; omega
        · rw [if_neg he, if_neg he, this]
  rw [key _ List.nodup_range]
  simp [hlen]

theorem Rg.cnt_eff (R : Rg P call ops al E lo hi ms ts0 T V) {L : Nat → Bool} (hL : ∀ x, L x = true → ∀ e ∈ E x, L e = true) (hsub : ∀ x, L x = true → x < al.length) {i : Nat} {o : AOper} (ho : al[i]? = some o) (he : isEff o = true) (hi' : L i = false) (hr : ∀ e ∈ E i, L e = true) : cnt al L = effN al i := by
  rw [effN_eq]
  unfold cnt
  refine filter_eq _ fun j hj => ?_
  cases hje : (al.map isEff)[j]?.getD false with
  | false => rfl
  | true =>
    have hjl : j < al.length := by simpa using hj
    have hp : al[j]? = some al[j] := List.getElem?_eq_getElem hjl
    have hpe : isEff al[j] = true := by simpa [hp] using hje
    by_cases hji : j = i
    · subst hji; simp [hi']
    · rcases R.chain i j o al[j] (Ne.symm hji) ho hp he hpe with ha | ha
      · have hLj : L j = true := ha.listed (L := fun x => L x = true) hL hr
        have hlt := ha.lt R.lt
        simp [hLj, hlt]
      · have hLj : L j = false := by
          cases hh : L j with
          | false => rfl
          | true =>
            have := ha.listed (L := fun x => L x = true) hL (hL j hh)
            rw [hi'] at this; cases this
        have hlt := ha.lt R.lt
        simp [hLj]; omega

end

end Go.Fx
