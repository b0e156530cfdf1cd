/- What the abstract machine's operation answers the machine's answers. -/
import Derived.Test.YtnngjdfadfblmaaGreatDoorFxOps6
namespace Go.Fx
open Go
set_option linter.unusedSimpArgs false
set_option linter.unusedVariables false

theorem avals_ok {φ : Ren} {ts : List Value} {a : Act} (ht : VRs φ ts a.tmps.toList) : ∀ {xs : List Operand} {l : List Value}, avals ts xs = some l → VRs φ l (xs.map a.eval)
  | [], l, h => by simp [avals] at h; subst h; exact VRs.nil φ
  | x :: xs, l, h => by
    simp only [avals] at h
    split at h
    · rename_i v r hv hr
      cases h
      exact VRs.cons (aval_ok ht hv) (avals_ok ht hr)
    · cases h

theorem avalO_ok {φ : Ren} {ts : List Value} {a : Act} (ht : VRs φ ts a.tmps.toList) {x : Option Operand} {v : Option Value} (h : avalO ts x = some v) : ORel φ v (x.map a.eval) := by
  cases x with
  | none => cases h; trivial
  | some x =>
    simp only [avalO, Option.map_eq_some_iff] at h
    obtain ⟨u, hu, rfl⟩ := h
    exact aval_ok ht hu

theorem aparts_ok {φ : Ren} {ts : List Value} {a : Act} (ht : VRs φ ts a.tmps.toList) {place : Nat → Option (Nat × Nat)} : ∀ {ps : List (Nat × Operand)} {l : List (Nat × Nat × Operand)} {r : List (Nat × Nat × Value)}, resParts place ps = some l → aparts ts l = some r → PartsR φ place r (ps.map fun p => (p.1, a.eval p.2))
  | [], l, r, h, h' => by
    simp [resParts] at h; subst h
    simp [aparts] at h'; subst h'
    exact ⟨rfl, fun i p q hp => by simp at hp⟩
  | (i, x) :: ps, l, r, h, h' => by
    simp only [resParts, Option.bind_eq_some_iff, Option.map_eq_some_iff] at h
    obtain ⟨⟨o, s⟩, hp, l', hl, rfl⟩ := h
    simp only [aparts] at h'
    split at h'
    · rename_i v r' hv hr
      cases h'
      obtain ⟨h1, h2⟩ := aparts_ok ht hl hr
      refine ⟨by simpa using h1, fun j p q hp' hq => ?_⟩
      cases j with
      | zero => simp at hp' hq; subst hp'; subst hq; exact ⟨hp, aval_ok ht hv⟩
      | succ j => exact h2 j p q (by simpa using hp') (by simpa using hq)
    · cases h'

theorem Comes1.val {P : Program} {φ φ' : Ren} {m m' : Mem} {w w' : World} {s : Sem Value} {v V : Value} (hs : s.run P w = .ok V w') (hv : VR φ' v V) (hi : Inv φ' m' w') (hf : Frm φ m w φ' m' w') :
    Comes1 φ m w ((do pure (Next.value (← s)) : Sem Next).run P w) v m' :=
  ⟨V, w', φ', .inl (by simp [hs]), hv, hi, hf⟩

theorem Comes1.still {P : Program} {φ : Ren} {m : Mem} {w : World} {s : Sem Value} {v V : Value} (hi : Inv φ m w) (hs : s.run P w = .ok V w) (hv : VR φ v V) :
    Comes1 φ m w ((do pure (Next.value (← s)) : Sem Next).run P w) v m := Comes1.val hs hv hi (Frm.refl φ m w)

theorem sizeT_some {P : Program} {t : TypeId} {s : Nat} (h : sizeT P t = some s) : ∃ i, P.info? t = some i ∧ i.size = s := by
  simp only [sizeT, Option.map_eq_some_iff] at h; exact h
theorem elemT_some {P : Program} {t e : TypeId} (h : elemT P t = some e) : P.underlying t = some (.slice e) := by
  unfold elemT at h
  split at h
  · cases h; assumption
  · cases h
theorem arrT_some {P : Program} {t : TypeId} {p : Nat × TypeId} (h : arrT P t = some p) : P.underlying t = some (.array p.1 p.2) := by
  unfold arrT at h
  split at h
  · cases h; assumption
  · cases h
theorem mapT_some {P : Program} {t : TypeId} {p : TypeId × TypeId} (h : mapT P t = some p) : P.underlying t = some (.map p.1 p.2) := by
  unfold mapT at h
  split at h
  · cases h; assumption
  · cases h
theorem fieldsT_some {P : Program} {t : TypeId} {fs : Array Field} (h : fieldsT P t = some fs) : P.underlying t = some (.struct fs) := by
  unfold fieldsT at h
  split at h
  · cases h; assumption
  · cases h
theorem zeroT_some {P : Program} {t : TypeId} {z : Value} (h : zeroT P t = some z) : ∃ i, P.info? t = some i ∧ i.zero = some z ∧ z.cells.toList.all plain = true := by
  simp only [zeroT, Option.bind_eq_some_iff] at h
  obtain ⟨i, hi, z', hz, h⟩ := h
  split at h
  · cases h; exact ⟨i, hi, hz, by assumption⟩
  · cases h

/-- A zero value all of whose cells are plain. -/
theorem zero_VRs {φ : Ren} {z : Value} (h : z.cells.toList.all plain = true) : VRs φ z.cells.toList z.cells.toList := VRs.plain h

theorem VR.of_cells {φ : Ren} {z : Value} (h : z.cells.toList.all Fx.plain = true) : VR φ z z := by
  cases z with
  | agg xs =>
    have : VRs φ xs.toList xs.toList := VRs.plain h
    have := this.agg
    simpa using this
  | bool b => exact .bool b
  | int k n => exact .int k n
  | string s => exact .string s
  | _ => exact VR.plain (by simpa [Value.cells] using h)

theorem res_eq {P : Program} {neg : Bool} {t : TypeId} {x y : Operand} {ao : AOp} (hr : resEq P neg t x y = some ao) {φ : Ren} {m m' : Mem} {w : World} (hi : Inv φ m w) {ts : List Value} {a : Act} (ht : VRs φ ts a.tmps.toList) {v : Value} (h : ao.run ts m = some (v, m')) :
    Comes1 φ m w ((do pure (Next.value (← (do eqGuard (if neg then .neq else .eql) t x y (a.eval x) (a.eval y); Go.binOp (if neg then .neq else .eql) t (a.eval x) (a.eval y) : Sem Value))) : Sem Next).run P w) v m' := by
  have ar : ∀ {op}, (AOp.arith op x y).run ts m = some (v, m') → op = (if neg then .neq else .eql) → Comes1 φ m w ((do pure (Next.value (← (do eqGuard (if neg then .neq else .eql) t x y (a.eval x) (a.eval y); Go.binOp (if neg then .neq else .eql) t (a.eval x) (a.eval y) : Sem Value))) : Sem Next).run P w) v m' := by
    intro op h hop
    subst hop
    simp only [AOp.run, Option.bind_eq_some_iff, Option.map_eq_some_iff, Prod.mk.injEq] at h
    obtain ⟨p, hp, q, hq, u, hu, rfl, rfl⟩ := h
    obtain ⟨h1, h2⟩ := sound_arith (P := P) (w := w) (t := t) (x := x) (y := y) (aval_ok ht hp) (aval_ok ht hq) hu
    exact Comes1.still hi h1 h2
  unfold resEq at hr
  split at hr
  · rename_i hd
    split at hr
    · rename_i hc
      cases hr
      simp only [AOp.run, P2.run, Option.bind_eq_some_iff, Option.map_eq_some_iff, Prod.mk.injEq] at h
      obtain ⟨p, hp, q, hq, u, hu, rfl, rfl⟩ := h
      obtain ⟨h1, h2⟩ := sound_eqIface (P := P) (w := w) (x := x) (y := y) hd hc (aval_ok ht hp) (aval_ok ht hq) hu
      exact Comes1.still hi h1 h2
    · cases hr
  · rename_i e hd
    split at hr
    · cases hr
      simp only [AOp.run, Option.bind_eq_some_iff, Option.map_eq_some_iff, Prod.mk.injEq] at h
      obtain ⟨p, hp, q, hq, u, hu, rfl, rfl⟩ := h
      obtain ⟨h1, h2⟩ := sound_eqNil (P := P) (w := w) (t := t) (x := x) (y := y) (by simp [nilKindT, hd]) (aval_ok ht hp) (aval_ok ht hq) hu
      exact Comes1.still hi h1 h2
    · simp only [Option.bind_eq_some_iff] at hr
      obtain ⟨s, hs, hr⟩ := hr
      obtain ⟨i, hti, rfl⟩ := sizeT_some hs
      split at hr
      · rename_i hz
        cases hr
        simp only [AOp.run, R2.run, Option.bind_eq_some_iff, Option.map_eq_some_iff, Prod.mk.injEq] at h
        obtain ⟨p, hp, q, hq, u, hu, rfl, rfl⟩ := h
        obtain ⟨h1, h2⟩ := sound_eqPtr (P := P) (x := x) (y := y) hi hd hti hz (aval_ok ht hp) (aval_ok ht hq) hu
        exact Comes1.still hi h1 h2
      · cases hr
  · cases hr; exact ar h rfl
  · cases hr; exact ar h rfl
  · rename_i hd
    cases hr
    simp only [AOp.run, Option.bind_eq_some_iff, Option.map_eq_some_iff, Prod.mk.injEq] at h
    obtain ⟨p, hp, q, hq, u, hu, rfl, rfl⟩ := h
    obtain ⟨h1, h2⟩ := sound_eqBool (P := P) (w := w) (x := x) (y := y) hd (aval_ok ht hp) (aval_ok ht hq) hu
    exact Comes1.still hi h1 h2
  · split at hr
    · rename_i d hd
      split at hr
      · rename_i hh
        cases hr
        simp only [AOp.run, Option.bind_eq_some_iff, Option.map_eq_some_iff, Prod.mk.injEq] at h
        obtain ⟨p, hp, q, hq, u, hu, rfl, rfl⟩ := h
        obtain ⟨h1, h2⟩ := sound_eq (P := P) (w := w) (x := x) (y := y) hh.1 hh.2.1 hh.2.2 (aval_ok ht hp) (aval_ok ht hq) hu
        exact Comes1.still hi h1 h2
      · cases hr
    · cases hr
  · simp only [Option.map_eq_some_iff] at hr
    obtain ⟨k, hk, rfl⟩ := hr
    simp only [AOp.run, Option.bind_eq_some_iff, Option.map_eq_some_iff, Prod.mk.injEq] at h
    obtain ⟨p, hp, q, hq, u, hu, rfl, rfl⟩ := h
    obtain ⟨h1, h2⟩ := sound_eqNil (P := P) (w := w) (x := x) (y := y) hk (aval_ok ht hp) (aval_ok ht hq) hu
    exact Comes1.still hi h1 h2

theorem run_resolve_builtin {P : Program} {w : World} {ρ : Operand → Value} {b : Builtin} {xs : Array Operand} {tys : Array TypeId} {ty : TypeId} {s : Sem Value} {d : Option Tmp} {pos : String} {af : Array Edge} {g : Option (Nat × Bool)}
    (hb : ∀ cs, builtin b tys ty cs (xs.map ρ) = (do pure (.value (← s)))) :
    (execOp ρ ⟨d, .call { callee := .builtin b, args := xs, argTypes := tys }, ty, pos, af, g⟩).run P w = (do pure (Next.value (← s)) : Sem Next).run P w := by
  simp only [execOp, resolve, Sem.run_bind, Sem.run_pure, Result.andThen_ok, invoke]
  rw [hb]
  simp

theorem res_builtin {P : Program} {b : Builtin} {tys : Array TypeId} {xs : Array Operand} {ao : AOp} (hr : resBuiltin P b tys.toList xs.toList = some ao) {φ : Ren} {m m' : Mem} {w : World} (hi : Inv φ m w) {ts : List Value} {a : Act} (ht : VRs φ ts a.tmps.toList) {v : Value} (h : ao.run ts m = some (v, m'))
    {ty : TypeId} {d : Option Tmp} {pos : String} {af : Array Edge} {g : Option (Nat × Bool)} :
    Comes1 φ m w ((execOp a.eval ⟨d, .call { callee := .builtin b, args := xs, argTypes := tys }, ty, pos, af, g⟩).run P w) v m' := by
  unfold resBuiltin at hr
  split at hr
  · rename_i t x h1 h2
    have e1 : tys = #[t] := by apply Array.toList_inj.1; simpa using h1
    have e2 : xs = #[x] := by apply Array.toList_inj.1; simpa using h2
    subst e1; subst e2
    rw [run_resolve_builtin (s := Builtin.len_ #[t] ty #[a.eval x]) (fun _ => by simp [builtin])]
    split at hr
    · rename_i hd
      cases hr
      simp only [AOp.run, Option.bind_eq_some_iff, Option.map_eq_some_iff, Prod.mk.injEq] at h
      obtain ⟨p, hp, u, hu, rfl, rfl⟩ := h
      obtain ⟨h3, h4⟩ := sound_lenSlice (P := P) (w := w) (ty := ty) hd (aval_ok ht hp) hu
      exact Comes1.still hi h3 h4
    · rename_i hd
      cases hr
      simp only [AOp.run, Option.bind_eq_some_iff, Option.map_eq_some_iff, Prod.mk.injEq] at h
      obtain ⟨p, hp, u, hu, rfl, rfl⟩ := h
      obtain ⟨h3, h4⟩ := sound_lenStr (P := P) (w := w) (ty := ty) hd (aval_ok ht hp) hu
      exact Comes1.still hi h3 h4
    · rename_i hd
      cases hr
      simp only [AOp.run, R1.run, Option.bind_eq_some_iff, Option.map_eq_some_iff, Prod.mk.injEq] at h
      obtain ⟨p, hp, u, hu, rfl, rfl⟩ := h
      obtain ⟨h3, h4⟩ := sound_lenM (P := P) (ty := ty) hi hd (aval_ok ht hp) hu
      exact Comes1.still hi h3 h4
    · cases hr
  · rename_i t x h1 h2
    have e1 : tys = #[t] := by apply Array.toList_inj.1; simpa using h1
    have e2 : xs = #[x] := by apply Array.toList_inj.1; simpa using h2
    subst e1; subst e2
    rw [run_resolve_builtin (s := Builtin.cap_ #[t] ty #[a.eval x]) (fun _ => by simp [builtin])]
    simp only [Option.map_eq_some_iff] at hr
    obtain ⟨e, he, rfl⟩ := hr
    simp only [AOp.run, R1.run, Option.bind_eq_some_iff, Option.map_eq_some_iff, Prod.mk.injEq] at h
    obtain ⟨p, hp, u, hu, rfl, rfl⟩ := h
    obtain ⟨h3, h4⟩ := sound_cap (P := P) (ty := ty) hi (elemT_some he) (aval_ok ht hp) hu
    exact Comes1.still hi h3 h4
  · rename_i t u x k h1 h2
    have e1 : tys = #[t, u] := by apply Array.toList_inj.1; simpa using h1
    have e2 : xs = #[x, k] := by apply Array.toList_inj.1; simpa using h2
    subst e1; subst e2
    rw [run_resolve_builtin (s := Builtin.delete_ #[t, u] ty #[a.eval x, a.eval k]) (fun _ => by simp [builtin])]
    simp only [Option.bind_eq_some_iff, Option.map_eq_some_iff] at hr
    obtain ⟨q, hq, kk, hkk, rfl⟩ := hr
    simp only [AOp.run, E2.run, Option.bind_eq_some_iff, Option.map_eq_some_iff, Prod.mk.injEq] at h
    obtain ⟨p, hp, q', hq', u', hu, rfl, rfl⟩ := h
    obtain ⟨w', h3, h4, h5⟩ := sound_delM (P := P) (ty := ty) (tk := u) hi (mapT_some hq) hkk (aval_ok ht hp) (aval_ok ht hq') hu
    exact Comes1.val h3 (VR.undef φ) h4 h5
  · rename_i x h2
    have e2 : xs = #[x] := by apply Array.toList_inj.1; simpa using h2
    subst e2
    rw [run_resolve_builtin (s := Builtin.unsafeSliceData_ tys ty #[a.eval x]) (fun _ => by simp [builtin])]
    cases hr
    simp only [AOp.run, P1.run, Option.bind_eq_some_iff, Option.map_eq_some_iff, Prod.mk.injEq] at h
    obtain ⟨p, hp, u, hu, rfl, rfl⟩ := h
    obtain ⟨U, h3, h4⟩ := sound_sliceData (P := P) (w := w) (ts := tys) (ty := ty) (aval_ok ht hp) hu
    exact Comes1.still hi h3 h4
  · rename_i t u x n h1 h2
    have e1 : tys = #[t, u] := by apply Array.toList_inj.1; simpa using h1
    have e2 : xs = #[x, n] := by apply Array.toList_inj.1; simpa using h2
    subst e1; subst e2
    rw [run_resolve_builtin (s := Builtin.unsafeString_ #[t, u] ty #[a.eval x, a.eval n]) (fun _ => by simp [builtin])]
    split at hr
    · rename_i e he
      split at hr
      · rename_i hc
        cases hr
        simp only [AOp.run, E2.run, Option.bind_eq_some_iff] at h
        obtain ⟨p, hp, q, hq, hu⟩ := h
        obtain ⟨w', h3, h4, h5, h6⟩ := sound_unsafeStr (P := P) (ty := ty) (it := u) hi he hc (aval_ok ht hp) (aval_ok ht hq) hu
        exact Comes1.val h3 h4 h5 h6
      · cases hr
    · cases hr
  · rename_i t u x y h1 h2
    have e1 : tys = #[t, u] := by apply Array.toList_inj.1; simpa using h1
    have e2 : xs = #[x, y] := by apply Array.toList_inj.1; simpa using h2
    subst e1; subst e2
    rw [run_resolve_builtin (s := Builtin.append_ #[t, u] ty #[a.eval x, a.eval y]) (fun _ => by simp [builtin])]
    simp only [Option.bind_eq_some_iff] at hr
    obtain ⟨e, he, i, hti, z, hz, hr⟩ := hr
    split at hr
    · rename_i hh
      cases hr
      simp only [AOp.run, Option.bind_eq_some_iff] at h
      obtain ⟨p, hp, q, hq, ⟨n, nc⟩, hsrc, h⟩ := h
      obtain ⟨U, w', φ', h3, h4, h5, h6⟩ := sound_append (P := P) (ty := ty) hi (elemT_some he) hti hz hh.1 hh.2 (aval_ok ht hp) (aval_ok ht hq) hsrc h
      exact Comes1.val h3 h4 h5 h6
    · cases hr
  · rename_i t u x y h1 h2
    have e1 : tys = #[t, u] := by apply Array.toList_inj.1; simpa using h1
    have e2 : xs = #[x, y] := by apply Array.toList_inj.1; simpa using h2
    subst e1; subst e2
    rw [run_resolve_builtin (s := Builtin.copy_ #[t, u] ty #[a.eval x, a.eval y]) (fun _ => by simp [builtin])]
    simp only [Option.bind_eq_some_iff, Option.map_eq_some_iff] at hr
    obtain ⟨e, he, s, hs, rfl⟩ := hr
    obtain ⟨i, hti, rfl⟩ := sizeT_some hs
    simp only [AOp.run, Option.bind_eq_some_iff] at h
    obtain ⟨p, hp, q, hq, ⟨n, nc⟩, hsrc, h⟩ := h
    obtain ⟨w', h3, h4, h5, h6⟩ := sound_copy (P := P) (ty := ty) (ts := t) (tx := u) hi (elemT_some he) hti (aval_ok ht hp) (aval_ok ht hq) hsrc h
    exact Comes1.val h3 h4 h5 h6
  · rename_i x r h2
    have e2 : xs = (x :: r).toArray := by apply Array.toList_inj.1; simpa using h2
    subst e2
    rw [run_resolve_builtin (s := Builtin.min_ tys ty ((x :: r).toArray.map a.eval)) (fun _ => rfl)]
    cases hr
    simp only [AOp.run, Option.bind_eq_some_iff, Option.map_eq_some_iff, Prod.mk.injEq] at h
    obtain ⟨p, hp, l, hl, u, hu, rfl, rfl⟩ := h
    obtain ⟨U, h3, h4⟩ := sound_foldV (P := P) (w := w) sound_min2 _ _ _ _ _ (aval_ok ht hp) (avals_ok ht hl) hu
    exact Comes1.still hi (by simpa [Builtin.min_] using h3) h4
  · rename_i x r h2
    have e2 : xs = (x :: r).toArray := by apply Array.toList_inj.1; simpa using h2
    subst e2
    rw [run_resolve_builtin (s := Builtin.max_ tys ty ((x :: r).toArray.map a.eval)) (fun _ => rfl)]
    cases hr
    simp only [AOp.run, Option.bind_eq_some_iff, Option.map_eq_some_iff, Prod.mk.injEq] at h
    obtain ⟨p, hp, l, hl, u, hu, rfl, rfl⟩ := h
    obtain ⟨U, h3, h4⟩ := sound_foldV (P := P) (w := w) sound_max2 _ _ _ _ _ (aval_ok ht hp) (avals_ok ht hl) hu
    exact Comes1.still hi (by simpa [Builtin.max_] using h3) h4
  · rename_i t x h1 h2
    have e1 : tys = #[t] := by apply Array.toList_inj.1; simpa using h1
    have e2 : xs = #[x] := by apply Array.toList_inj.1; simpa using h2
    subst e1; subst e2
    rw [run_resolve_builtin (s := Builtin.clear_ #[t] ty #[a.eval x]) (fun _ => by simp [builtin])]
    split at hr
    · rename_i hd
      cases hr
      simp only [AOp.run, E1.run, Option.bind_eq_some_iff, Option.map_eq_some_iff, Prod.mk.injEq] at h
      obtain ⟨p, hp', u, hu, rfl, rfl⟩ := h
      obtain ⟨w', h3, h4, h5⟩ := sound_clearM (P := P) (ty := ty) hi hd (aval_ok ht hp') hu
      exact Comes1.val h3 (VR.undef φ) h4 h5
    · rename_i e he
      simp only [Option.bind_eq_some_iff] at hr
      obtain ⟨s, hs, z, hz, hr⟩ := hr
      obtain ⟨i, hti, rfl⟩ := sizeT_some hs
      obtain ⟨i', hti', hzi, hp⟩ := zeroT_some hz
      rw [hti] at hti'; cases hti'
      split at hr
      · cases hr
        simp only [AOp.run, Option.bind_eq_some_iff, Option.map_eq_some_iff, Prod.mk.injEq] at h
        obtain ⟨p, hp', u, hu, rfl, rfl⟩ := h
        obtain ⟨w', U, h3, h4, h5, h6⟩ := sound_clear (P := P) (ty := ty) hi he hti hzi hp (aval_ok ht hp') hu
        exact Comes1.val h3 h4 h5 h6
      · cases hr
    · cases hr
  · cases hr

end Go.Fx
