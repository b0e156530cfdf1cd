/- No run changes how many temporaries there are; a round's end, told by a mark. -/
import Derived.Test.YtgmkehbebpljjaaGreatDoorFxStr
import Derived.Test.YtgmkehbebpljjaaGreatDoorFxRange
namespace Go.Fx
open Go
set_option linter.unusedSimpArgs false
set_option linter.unusedVariables false
set_option linter.unusedVariables false

theorem runOps_length (call : CallF) : ∀ (ops : List AOper) (ts : List Value) (m : Mem) (ts' : List Value) (m' : Mem), runOps call ops ts m = some (ts', m') → ts'.length = ts.length
  | [], ts, m, ts', m', h => by simp only [runOps, Option.some.injEq, Prod.mk.injEq] at h; rw [h.1]
  | o :: r, ts, m, ts', m', h => by
    simp only [runOps] at h
    split at h
    · simp only [Option.bind_eq_some_iff] at h
      obtain ⟨p, _, h⟩ := h
      rw [runOps_length call r _ _ _ _ h, putT_length]
    · rw [runOps_length call r _ _ _ _ h, putT_length]
theorem runTr_length (call : CallF) : ∀ (ops : List AOper) (lh : List (Nat × Nat)) (ts : List Value) (m : Mem) (x : Tr), runTr call ops lh ts m = some x → x.1.length = ts.length
  | [], lh, ts, m, x, h => by simp only [runTr, Option.some.injEq] at h; rw [← h]
  | o :: r, lh, ts, m, x, h => by
    simp only [runTr] at h
    split at h
    · split at h
      · simp only [Option.bind_eq_some_iff, Option.map_eq_some_iff] at h
        obtain ⟨p, _, y, h, rfl⟩ := h
        rw [runTr_length call r _ _ _ _ h, putT_length]
      · simp only [Option.bind_eq_some_iff, Option.map_eq_some_iff] at h
        obtain ⟨q, _, v, _, y, h, rfl⟩ := h
        rw [runTr_length call r _ _ _ _ h, putT_length]
      · simp only [Option.bind_eq_some_iff] at h
        obtain ⟨p, _, h⟩ := h
        rw [runTr_length call r _ _ _ _ h, putT_length]
    · split at h
      · simp only [Option.map_eq_some_iff] at h
        obtain ⟨y, h, rfl⟩ := h
        rw [runTr_length call r _ _ _ _ h, putT_length]
      · rw [runTr_length call r _ _ _ _ h, putT_length]
theorem runD_length (call : CallF) (ops : List AOper) (lh : List (Nat × Nat)) (ts : List Value) (m : Mem) (ts' : List Value) (m' : Mem) (h : runD call ops lh ts m = some (ts', m')) : ts'.length = ts.length := by
  simp only [runD, Option.bind_eq_some_iff] at h
  obtain ⟨x, hx, h⟩ := h
  split at h
  · cases h
    exact runTr_length call _ _ _ _ _ hx
  · cases h
theorem loopN_length {f : List Value → Mem → Option Out} (hf : ∀ ts m e ts' m', f ts m = some (e, ts', m') → ts'.length = ts.length) : ∀ (n : Nat) (ts : List Value) (m : Mem) (e : AEx) (ts' : List Value) (m' : Mem), loopN f n ts m = some (e, ts', m') → ts'.length = ts.length
  | 0, ts, m, e, ts', m', h => by cases h
  | n + 1, ts, m, e, ts', m', h => by
    simp only [loopN, Option.bind_eq_some_iff] at h
    obtain ⟨⟨e1, ts1, m1⟩, h1, h⟩ := h
    have h2 := hf _ _ _ _ _ h1
    cases e1 with
    | normal => rw [loopN_length hf n _ _ _ _ _ h, h2]
    | exit id => cases h; exact h2
    | ret => cases h; exact h2
theorem exec_length (call : CallF) (n : Nat) : ∀ (a : ACode) (ts : List Value) (m : Mem) (e : AEx) (ts' : List Value) (m' : Mem), exec call n a ts m = some (e, ts', m') → ts'.length = ts.length := by
  intro a
  induction a with
  | skip => intro ts m e ts' m' h; cases h; rfl
  | region ops =>
    intro ts m e ts' m' h
    simp only [exec, Option.map_eq_some_iff] at h
    obtain ⟨⟨t, q⟩, h, he⟩ := h
    cases he
    exact runOps_length call _ _ _ _ _ h
  | draw ops lh =>
    intro ts m e ts' m' h
    simp only [exec, Option.map_eq_some_iff] at h
    obtain ⟨⟨t, q⟩, h, he⟩ := h
    cases he
    exact runD_length call _ _ _ _ _ _ h
  | drawF ops lh =>
    intro ts m e ts' m' h
    simp only [exec, Option.map_eq_some_iff] at h
    obtain ⟨⟨t, q⟩, h, he⟩ := h
    cases he
    exact runD_length call _ _ _ _ _ _ h
  | seq a b iha ihb =>
    intro ts m e ts' m' h
    simp only [exec, Option.bind_eq_some_iff] at h
    obtain ⟨⟨e1, ts1, m1⟩, h1, h⟩ := h
    have h2 := iha _ _ _ _ _ h1
    cases e1 with
    | normal => rw [ihb _ _ _ _ _ h, h2]
    | exit id => cases h; exact h2
    | ret => cases h; exact h2
  | cond c a b iha ihb =>
    intro ts m e ts' m' h
    simp only [exec, Option.bind_eq_some_iff] at h
    obtain ⟨v, _, t, _, h⟩ := h
    split at h
    · exact iha _ _ _ _ _ h
    · exact ihb _ _ _ _ _ h
  | block id a ih =>
    intro ts m e ts' m' h
    simp only [exec, Option.map_eq_some_iff] at h
    obtain ⟨⟨e1, ts1, m1⟩, h1, h⟩ := h
    have h2 := ih _ _ _ _ _ h1
    cases e1 with
    | normal => cases h; exact h2
    | ret => cases h; exact h2
    | exit j =>
      simp only at h
      split at h <;> (cases h; exact h2)
  | loop a ih =>
    intro ts m e ts' m' h
    exact loopN_length ih n _ _ _ _ _ h
  | exit id => intro ts m e ts' m' h; cases h; rfl
  | ret => intro ts m e ts' m' h; cases h; rfl
  | stop => intro ts m e ts' m' h; cases h
theorem Exec_length {S : CallF} {tab : Tab} {a : ACode} {ts : List Value} {m : Mem} {e : AEx} {ts' : List Value} {m' : Mem} (h : Exec S tab a ts m = some (e, ts', m')) : ts'.length = ts.length := by
  obtain ⟨n, h⟩ := Exec_iff.1 h
  exact exec_length _ n a ts m e ts' m' h

/-- What a round's body comes to, told apart by a mark laid behind it: in place F. -/
theorem round_cases {S : CallF} {tab : Tab} {A : ACode} {F : Nat} {ts : List Value} {m : Mem} {Q : Bool → Mem → Prop} (hl : F < ts.length)
    (h : ∀ c : Int, W (XK S tab [.tmp F] (.seq A (.region [⟨some F, .mov (.const (.int .i64 c)), none⟩])) [] ts m) fun v m' => (v = .int .i64 c ∧ Q true m') ∨ (v = undef ∧ Q false m')) :
    ∃ e ts' m', Exec S tab A ts m = some (e, ts', m') ∧ ((e = .normal ∧ Q true m') ∨ (e = .ret ∧ Q false m')) := by
  have h0 := h 0
  have h1 := h 1
  simp only [XK, Exec_seq] at h0 h1
  cases he : Exec S tab A ts m with
  | none => rw [he] at h0; obtain ⟨v, m', e, _⟩ := h0; cases e
  | some r =>
    obtain ⟨e, ts', m'⟩ := r
    have hlen := Exec_length he
    refine ⟨e, ts', m', rfl, ?_⟩
    rw [he] at h0 h1
    cases e with
    | exit id =>
      obtain ⟨v, m2, e, _⟩ := h0
      rw [andThen_exit] at e
      simp [runK] at e
    | normal =>
      have hr : ∀ c : Int, Exec S tab (.region [⟨some F, .mov (.const (.int .i64 c)), none⟩]) ts' m' = some (.normal, ts'.set F (.int .i64 c), m') := by
        intro c
        rw [Exec_region]
        rfl
      obtain ⟨v, m2, e, q⟩ := h0
      rw [andThen_normal, hr] at e
      simp only [Option.bind_some, runK, fin_eq, resVs, resV, Option.map_some, Option.some.injEq, Prod.mk.injEq, List.getElem?_set_self (show F < ts'.length by omega), Option.getD_some, oneOf] at e
      obtain ⟨rfl, rfl⟩ := e
      rcases q with ⟨_, q⟩ | ⟨hv, q⟩
      · exact .inl ⟨rfl, q⟩
      · simp [undef] at hv
    | ret =>
      obtain ⟨v0, m0, e0, q0⟩ := h0
      obtain ⟨v1, m1, e1, q1⟩ := h1
      rw [andThen_ret] at e0 e1
      simp only [Option.bind_some, runK, fin_eq, resVs, resV, Option.map_some, Option.some.injEq, Prod.mk.injEq, oneOf] at e0 e1
      obtain ⟨rfl, rfl⟩ := e0
      obtain ⟨rfl, _⟩ := e1
      rcases q0 with ⟨hv, q⟩ | ⟨hv, q⟩
      · rcases q1 with ⟨hv1, _⟩ | ⟨hv1, _⟩
        · rw [hv] at hv1; simp at hv1
        · rw [hv] at hv1; simp [undef] at hv1
      · exact .inr ⟨rfl, q⟩
end Go.Fx
