/- The main theorem on one operation. -/
import Derived.Test.YtnngjdfadfblmaaGreatDoorFxSound
namespace Go.Fx
open Go
set_option linter.unusedSimpArgs false
set_option linter.unusedVariables false

theorem mapM_fields {P : Program} {w : World} : ∀ {l : List Field} {pl : List (Nat × Nat)}, (l.mapM fun f => (sizeT P f.type).map fun s => (f.offset, s)) = some pl →
    (l.mapM (fun f => do pure (f.offset, ← sizeOf f.type)) : Sem (List (Nat × Nat))).run P w = .ok pl w
  | [], pl, h => by simp at h; subst h; simp
  | f :: l, pl, h => by
    simp only [List.mapM_cons, Option.bind_eq_bind, Option.bind_eq_some_iff, Option.map_eq_some_iff, Option.pure_def, Option.some.injEq] at h
    obtain ⟨p, ⟨s, hs, rfl⟩, r, hr, rfl⟩ := h
    obtain ⟨i, hi, rfl⟩ := sizeT_some hs
    have := mapM_fields (w := w) hr
    simp only [List.mapM_cons, Sem.run_bind, run_size hi, Result.andThen_ok, Sem.run_pure]
    rw [this]; rfl

theorem sound_build {P : Program} {φ : Ren} {w : World} {t : TypeId} {fs : Array Field} {z : Value} {pl : List (Nat × Nat)} {i : TypeInfo} (hfs : P.underlying t = some (.struct fs)) (hti : P.info? t = some i) (hz : i.zero = some z) (hp : z.cells.toList.all plain = true)
    (hpl : fieldPlaces P fs = some pl) {ps : List (Nat × Nat × Value)} {PS : Array (Nat × Value)} (hP : PartsR φ (fun i => pl[i]?) ps PS.toList) {c : List Value} (h : afill z.cells.toList ps = some c) :
    ∃ V, (Instr.build t PS).run P w = .ok V w ∧ VR φ (.agg c.toArray) V := by
  obtain ⟨R, hR, r⟩ := afill_ok (place := fun i => pl.toArray[i]?) ps PS.toList z.cells.toList z.cells c (by simpa using hP) (VRs.plain hp) h
  refine ⟨.agg R, ?_, by have := r.agg; simpa using this⟩
  have hm : (fs.mapM (fun f => do pure (f.offset, ← sizeOf f.type)) : Sem (Array (Nat × Nat))).run P w = .ok pl.toArray w := by
    have := mapM_fields (w := w) (P := P) (l := fs.toList) hpl
    rw [← Array.toList_mapM] at this
    simp only [Sem.run_map] at this
    generalize (fs.mapM (fun f => do pure (f.offset, ← sizeOf f.type)) : Sem (Array (Nat × Nat))).run P w = q at this ⊢
    cases q with
    | ok q w' => simp at this; obtain ⟨rfl, rfl⟩ := this; simp
    | halt q w' => simp at this
  simp only [Instr.build, Sem.run_bind, run_zero hti hz, Result.andThen_ok, run_und hfs, hm]
  rw [hR]
  simp

theorem sound_buildA {P : Program} {φ : Ren} {w : World} {t : TypeId} {n : Nat} {e : TypeId} {z : Value} {j i : TypeInfo} (hfs : P.underlying t = some (.array n e)) (hti : P.info? t = some i) (hz : i.zero = some z) (hp : z.cells.toList.all plain = true)
    (hj : P.info? e = some j) {ps : List (Nat × Nat × Value)} {PS : Array (Nat × Value)} (hP : PartsR φ (fun i => some (i * j.size, j.size)) ps PS.toList) {c : List Value} (h : afill z.cells.toList ps = some c) :
    ∃ V, (Instr.build t PS).run P w = .ok V w ∧ VR φ (.agg c.toArray) V := by
  obtain ⟨R, hR, r⟩ := afill_ok (place := fun i => some (i * j.size, j.size)) ps PS.toList z.cells.toList z.cells c hP (VRs.plain hp) h
  refine ⟨.agg R, ?_, by have := r.agg; simpa using this⟩
  simp only [Instr.build, Sem.run_bind, run_zero hti hz, Result.andThen_ok, run_und hfs, run_size hj]
  rw [hR]
  simp

theorem sound_buildSlice {P : Program} {φ : Ren} {m : Mem} {w : World} (hi : Inv φ m w) {t e : TypeId} {i : TypeInfo} {z : Value} {len : Nat} (hte : P.underlying t = some (.slice e)) (hti : P.info? e = some i) (hz : i.zero = some z) (hp : z.cells.toList.all plain = true) (hs : z.cells.size = i.size) (hlen : len * i.size ≤ 2 ^ 24)
    {ps : List (Nat × Nat × Value)} {PS : Array (Nat × Value)} (hP : PartsR φ (fun k => some (k * i.size, i.size)) ps PS.toList) {c : List Value} (h : afill (List.replicate len z.cells.toList).flatten ps = some c) :
    ∃ V w' φ', (Instr.buildSlice t len PS).run P w = .ok V w' ∧ VR φ' (runBuildSlice e len c m).1 V ∧ Inv φ' (runBuildSlice e len c m).2 w' ∧ Frm φ m w φ' (runBuildSlice e len c m).2 w' := by
  have hrep := replicate_flatten_eq z.cells i.size len hs
  have hplain : (List.replicate len z.cells.toList).flatten.all plain = true := by
    rw [List.all_eq_true]
    intro v hv
    simp only [List.mem_flatten, List.mem_replicate] at hv
    obtain ⟨l, ⟨_, rfl⟩, hv⟩ := hv
    exact List.all_eq_true.1 hp v hv
  obtain ⟨R, hR, r⟩ := afill_ok ps PS.toList _ ((Array.range (len * i.size)).map (z.cells[· % z.cells.size]!)) c hP (by rw [hrep]; exact VRs.plain hplain) h
  obtain ⟨φ', h1, h2, h3⟩ := hi.allocCells e r
  refine ⟨.slice (some ⟨w.heap.size, 0, none⟩) len len, _, φ', ?_, ?_, h1, h2⟩
  · have hn : ¬ (len * i.size > 2 ^ 24) := by omega
    simp only [Instr.buildSlice, Sem.run_bind, run_und hte, Result.andThen_ok, run_size hti, Sem.run_ite, if_neg hn, Sem.run_pure]
    by_cases h0 : len * i.size = 0
    · rw [if_pos h0]
      have e0 : (Array.range (len * i.size)).map ((#[] : Array Value)[· % (#[] : Array Value).size]!) = (Array.range (len * i.size)).map (z.cells[· % z.cells.size]!) := by rw [h0]; simp
      rw [e0, hR]
      simp [newRow]
    · rw [if_neg h0]
      simp only [Sem.run_bind, run_zero hti hz, Result.andThen_ok, Sem.run_pure]
      rw [hR]
      simp [newRow]
  · exact VR.sliceEx m.next 0 len len ⟨w.heap.size, 0, none, 0⟩ h3 rfl

theorem resO_sound {P : Program} {o : Oper} {ao : AOp} (hr : resO P o = some ao) {φ : Ren} {m m' : Mem} {w : World} (hi : Inv φ m w) {ts : List Value} {a : Act} (ht : VRs φ ts a.tmps.toList) {v : Value} (h : ao.run ts m = some (v, m')) :
    Comes1 φ m w ((execOp a.eval o).run P w) v m' := by
  obtain ⟨dst, op, ty, pos, af, g⟩ := o
  cases op <;> simp only [resO] at hr
  case move x =>
    cases hr
    simp only [AOp.run, Option.map_eq_some_iff, Prod.mk.injEq] at h
    obtain ⟨p, hp, rfl, rfl⟩ := h
    exact Comes1.quiet hi (aval_ok ht hp) rfl
  case assign x =>
    cases hr
    simp only [AOp.run, Option.map_eq_some_iff, Prod.mk.injEq] at h
    obtain ⟨p, hp, rfl, rfl⟩ := h
    exact Comes1.quiet hi (aval_ok ht hp) rfl
  case nilCheck x =>
    cases hr
    simp only [AOp.run, Option.bind_eq_some_iff, Option.map_eq_some_iff, Prod.mk.injEq] at h
    obtain ⟨p, hp, u, hu, rfl, rfl⟩ := h
    have hv := aval_ok ht hp
    generalize hx : a.eval x = X at hv
    unfold runNilck at hu
    split at hu
    · cases hu
      cases hv with
      | ptr b off l hl => exact Comes1.quiet hi (.ptr b off l hl) (by simp [execOp, hx])
    · cases hu
      cases hv with
      | func _ _ _ _ _ h1 h2 h3 h4 => exact Comes1.quiet hi (.func _ _ _ _ _ h1 h2 h3 h4) (by simp [execOp, hx])
    · cases hu
  case pick c x y =>
    cases hr
    simp only [AOp.run, Option.bind_eq_some_iff, Option.map_eq_some_iff, Prod.mk.injEq] at h
    obtain ⟨p, hp, t, htt, q, hq, r, hrr, rfl, rfl⟩ := h
    have hv := aval_ok ht hp
    generalize hx : a.eval c = C at hv
    unfold asB at htt
    split at htt
    · cases htt
      cases hv
      cases t
      · exact Comes1.quiet hi (aval_ok ht hrr) (by simp [execOp, hx, asBool])
      · exact Comes1.quiet hi (aval_ok ht hq) (by simp [execOp, hx, asBool])
    · cases htt
  case alloc e =>
    simp only [Option.map_eq_some_iff] at hr
    obtain ⟨z, hz, rfl⟩ := hr
    obtain ⟨i, hti, hzi, hp⟩ := zeroT_some hz
    simp only [AOp.run, Option.some.injEq] at h
    have e1 : (runBox e z m).1 = v := by rw [h]
    have e2 : (runBox e z m).2 = m' := by rw [h]
    subst e1; subst e2
    obtain ⟨V, w', φ', h1, h2, h3, h4⟩ := sound_alloc (P := P) hi hti hzi (VR.of_cells hp)
    exact Comes1.val h1 h2 h3 h4
  case box e x =>
    cases hr
    simp only [AOp.run, Option.map_eq_some_iff] at h
    obtain ⟨p, hp, h⟩ := h
    have e1 : (runBox e p m).1 = v := by rw [h]
    have e2 : (runBox e p m).2 = m' := by rw [h]
    subst e1; subst e2
    obtain ⟨V, w', φ', h1, h2, h3, h4⟩ := sound_box (P := P) hi e (aval_ok ht hp)
    exact Comes1.val h1 h2 h3 h4
  case build t ps =>
    split at hr
    · rename_i q hq
      simp only [Option.bind_eq_some_iff, Option.map_eq_some_iff] at hr
      obtain ⟨s, hs, z, hz, l, hl, rfl⟩ := hr
      obtain ⟨j, hj, rfl⟩ := sizeT_some hs
      obtain ⟨i, hti, hzi, hp⟩ := zeroT_some hz
      simp only [AOp.run, Option.bind_eq_some_iff, Option.map_eq_some_iff, Prod.mk.injEq] at h
      obtain ⟨r, hr, c, hc, rfl, rfl⟩ := h
      have hP := aparts_ok ht hl hr
      obtain ⟨V, h1, h2⟩ := sound_buildA (P := P) (w := w) (PS := ps.map fun (i, x) => (i, a.eval x)) (arrT_some hq) hti hzi hp hj (by simpa using hP) hc
      exact Comes1.still hi h1 h2
    · simp only [Option.bind_eq_some_iff, Option.map_eq_some_iff] at hr
      obtain ⟨fs, hfs, z, hz, pl, hpl, l, hl, rfl⟩ := hr
      obtain ⟨i, hti, hzi, hp⟩ := zeroT_some hz
      simp only [AOp.run, Option.bind_eq_some_iff, Option.map_eq_some_iff, Prod.mk.injEq] at h
      obtain ⟨r, hr, c, hc, rfl, rfl⟩ := h
      have hP := aparts_ok ht hl hr
      obtain ⟨V, h1, h2⟩ := sound_build (P := P) (w := w) (PS := ps.map fun (i, x) => (i, a.eval x)) (fieldsT_some hfs) hti hzi hp hpl (by simpa using hP) hc
      exact Comes1.still hi h1 h2
  case buildSlice t len ps =>
    simp only [Option.bind_eq_some_iff] at hr
    obtain ⟨e, he, s, hs, z, hz, hr⟩ := hr
    obtain ⟨i, hti, rfl⟩ := sizeT_some hs
    obtain ⟨i', hti', hzi, hp⟩ := zeroT_some hz
    rw [hti] at hti'; cases hti'
    split at hr
    · rename_i hh
      simp only [Option.map_eq_some_iff] at hr
      obtain ⟨l, hl, rfl⟩ := hr
      simp only [AOp.run, Option.bind_eq_some_iff, Option.map_eq_some_iff] at h
      obtain ⟨r, hr, c, hc, h⟩ := h
      have hP := aparts_ok ht hl hr
      have e1 : (runBuildSlice e len c m).1 = v := by rw [h]
      have e2 : (runBuildSlice e len c m).2 = m' := by rw [h]
      subst e1; subst e2
      obtain ⟨V, w', φ', h1, h2, h3, h4⟩ := sound_buildSlice (P := P) (PS := ps.map fun (i, x) => (i, a.eval x)) hi (elemT_some he) hti hzi hp hh.2.1 hh.1 (by simpa using hP) hc
      exact Comes1.val h1 h2 h3 h4
    · cases hr
  case load t x =>
    simp only [Option.bind_eq_some_iff] at hr
    obtain ⟨ag, hag, hr⟩ := hr
    cases ag
    · simp only [Bool.false_eq_true, if_false, Option.some.injEq] at hr
      subst hr
      simp only [AOp.run, Option.bind_eq_some_iff, Option.map_eq_some_iff, Prod.mk.injEq] at h
      obtain ⟨p, hp, u, hu, rfl, rfl⟩ := h
      obtain ⟨U, h1, h2⟩ := sound_load1 (P := P) hi hag (aval_ok ht hp) hu
      exact Comes1.still hi h1 h2
    · simp only [if_true, Option.map_eq_some_iff] at hr
      obtain ⟨n, hn, rfl⟩ := hr
      obtain ⟨i, hti, rfl⟩ := sizeT_some hn
      simp only [AOp.run, Option.bind_eq_some_iff, Option.map_eq_some_iff, Prod.mk.injEq] at h
      obtain ⟨p, hp, u, hu, rfl, rfl⟩ := h
      obtain ⟨U, h1, h2⟩ := sound_loadN (P := P) hi hag hti (aval_ok ht hp) hu
      exact Comes1.still hi h1 h2
  case store t x y =>
    simp only [Option.map_eq_some_iff] at hr
    obtain ⟨n, hn, rfl⟩ := hr
    obtain ⟨i, hti, rfl⟩ := sizeT_some hn
    simp only [AOp.run, Option.bind_eq_some_iff, Option.map_eq_some_iff, Prod.mk.injEq] at h
    obtain ⟨p, hp, q, hq, u, hu, rfl, rfl⟩ := h
    obtain ⟨w', h1, h2, h3⟩ := sound_store (P := P) hi hti (aval_ok ht hp) (aval_ok ht hq) hu
    exact ⟨undef, w', φ, .inr ⟨by simp [execOp, h1], rfl⟩, VR.undef φ, h2, h3⟩
  case binOp op t x y ty2 =>
    by_cases h1 : op = .eql
    · subst h1
      exact res_eq (neg := false) hr hi ht h
    · by_cases h2 : op = .neq
      · subst h2
        exact res_eq (neg := true) hr hi ht h
      · have hr' : some (AOp.arith op x y) = some ao := by
          cases op <;> simp at h1 h2 <;> exact hr
        cases hr'
        simp only [AOp.run, Option.bind_eq_some_iff, Option.map_eq_some_iff, Prod.mk.injEq] at h
        obtain ⟨p, hp, q, hq, u, hu, rfl, rfl⟩ := h
        obtain ⟨h1, h2⟩ := sound_arith (P := P) (w := w) (t := t) (x := x) (y := y) (aval_ok ht hp) (aval_ok ht hq) hu
        exact Comes1.still hi h1 h2
  case unOp op t x =>
    cases hr
    simp only [AOp.run, Option.bind_eq_some_iff, Option.map_eq_some_iff, Prod.mk.injEq] at h
    obtain ⟨p, hp, u, hu, rfl, rfl⟩ := h
    obtain ⟨h1, h2⟩ := sound_un (P := P) (w := w) (aval_ok ht hp) hu
    exact Comes1.still hi h1 h2
  case convert s d x =>
    split at hr
    · rename_i hs hd
      cases hr
      simp only [AOp.run, Option.bind_eq_some_iff, Option.map_eq_some_iff, Prod.mk.injEq] at h
      obtain ⟨p, hp, u, hu, rfl, rfl⟩ := h
      obtain ⟨h1, h2⟩ := sound_conv (P := P) (w := w) hs hd (aval_ok ht hp) hu
      exact Comes1.still hi h1 h2
    · rename_i e hs hd
      split at hr
      · rename_i he
        cases hr
        simp only [AOp.run, E1.run, Option.bind_eq_some_iff] at h
        obtain ⟨p, hp, hu⟩ := h
        obtain ⟨U, w', φ', h1, h2, h3, h4⟩ := sound_s2b (P := P) hi hs hd he (aval_ok ht hp) hu
        exact Comes1.val h1 h2 h3 h4
      · cases hr
    · rename_i t hs hd
      simp only [Option.bind_eq_some_iff] at hr
      obtain ⟨n, hn, hr⟩ := hr
      obtain ⟨i, hti, rfl⟩ := sizeT_some hn
      split at hr
      · rename_i hz
        cases hr
        simp only [AOp.run, R1.run, Option.bind_eq_some_iff, Option.map_eq_some_iff, Prod.mk.injEq] at h
        obtain ⟨p, hp, u, hu, rfl, rfl⟩ := h
        obtain ⟨U, h1, h2⟩ := sound_p2u (P := P) hi hs hd hti hz (aval_ok ht hp) hu
        exact Comes1.still hi h1 h2
      · cases hr
    · rename_i t hs hd
      simp only [Option.bind_eq_some_iff] at hr
      obtain ⟨n, hn, hr⟩ := hr
      obtain ⟨i, hti, rfl⟩ := sizeT_some hn
      split at hr
      · rename_i hz
        cases hr
        simp only [AOp.run, R1.run, Option.bind_eq_some_iff, Option.map_eq_some_iff, Prod.mk.injEq] at h
        obtain ⟨p, hp, u, hu, rfl, rfl⟩ := h
        obtain ⟨U, h1, h2⟩ := sound_u2p (P := P) hi hs hd hti (fun k hk => liesAt_self (by rw [hz.2]; exact hz.1) k hk) hz.2 hz.1 (aval_ok ht hp) hu
        exact Comes1.still hi h1 h2
      · cases hr
    · rename_i hs hd
      split at hr
      · rename_i he
        cases hr
        simp only [AOp.run, Option.bind_eq_some_iff, Option.map_eq_some_iff, Prod.mk.injEq] at h
        obtain ⟨p, hp, u, hu, rfl, rfl⟩ := h
        obtain ⟨h1, h2⟩ := sound_b2s (P := P) hi hs hd he (aval_ok ht hp) hu
        exact Comes1.still hi h1 h2
      · cases hr
    · cases hr
  case makeFunc fn first captured =>
    cases fn <;> simp only [resO] at hr <;> try (cases hr; done)
    cases hr
    simp only [AOp.run, Option.bind_eq_some_iff, Option.map_eq_some_iff, Prod.mk.injEq] at h
    obtain ⟨l0, hl0, l, hl, rfl, rfl⟩ := h
    have h0 := avals_ok ht hl0
    have h1 := avals_ok ht hl
    refine Comes1.quiet hi (.func _ l0.toArray (first.map a.eval) l.toArray (captured.map a.eval) ?_ ?_ ?_ ?_) (by simp [execOp, Instr.makeFunc])
    · have := h0.1; simpa using this
    · intro i x y hx hy
      exact h0.2 i x y (by simpa using hx) (by simpa using hy)
    · have := h1.1; simpa using this
    · intro i x y hx hy
      exact h1.2 i x y (by simpa using hx) (by simpa using hy)
  case lookup t x y ok =>
    simp only [Option.bind_eq_some_iff, Option.map_eq_some_iff] at hr
    obtain ⟨q, hq, kk, hkk, z, hz, rfl⟩ := hr
    obtain ⟨i, hti, hzi, hzp⟩ := zeroT_some hz
    simp only [AOp.run, R2.run, Option.bind_eq_some_iff, Option.map_eq_some_iff, Prod.mk.injEq] at h
    obtain ⟨p, hp, k, hk, u, hu, rfl, rfl⟩ := h
    obtain ⟨U, h1, h2⟩ := sound_lookup (P := P) hi (mapT_some hq) hkk hti hzi (VR.of_cells hzp) (aval_ok ht hp) (aval_ok ht hk) hu
    exact Comes1.still hi h1 h2
  case mapUpdate t x k y =>
    simp only [Option.bind_eq_some_iff, Option.map_eq_some_iff] at hr
    obtain ⟨q, hq, kk, hkk, rfl⟩ := hr
    simp only [AOp.run, Option.bind_eq_some_iff, Option.map_eq_some_iff, Prod.mk.injEq] at h
    obtain ⟨p, hp, k, hk, u, hu, v', hv, rfl, rfl⟩ := h
    obtain ⟨w', h1, h2, h3⟩ := sound_mapUpd (P := P) hi (mapT_some hq) hkk (aval_ok ht hp) (aval_ok ht hk) (aval_ok ht hu) hv
    exact ⟨undef, w', φ, .inr ⟨by simp [execOp, h1], rfl⟩, VR.undef φ, h2, h3⟩
  case insert t x k y =>
    simp only [Option.bind_eq_some_iff, Option.map_eq_some_iff] at hr
    obtain ⟨q, hq, kk, hkk, rfl⟩ := hr
    simp only [AOp.run, Option.bind_eq_some_iff, Option.map_eq_some_iff, Prod.mk.injEq] at h
    obtain ⟨p, hp, k, hk, u, hu, v', hv, rfl, rfl⟩ := h
    obtain ⟨w', h1, h2, h3⟩ := sound_mapUpd (P := P) hi (mapT_some hq) hkk (aval_ok ht hp) (aval_ok ht hk) (aval_ok ht hu) hv
    exact ⟨undef, w', φ, .inr ⟨by simp [execOp, h1], rfl⟩, VR.undef φ, h2, h3⟩
  case makeMap t x =>
    simp only [Option.map_eq_some_iff] at hr
    obtain ⟨q, hq, rfl⟩ := hr
    simp only [AOp.run, Option.bind_eq_some_iff] at h
    obtain ⟨p, hp, h⟩ := h
    split at h
    · rename_i hh
      obtain ⟨V, w', φ', h1, h2, h3, h4⟩ := sound_makeM (P := P) hi t
      have e1 : (runMakeM m).1 = v := by rw [Option.some.inj h]
      have e2 : (runMakeM m).2 = m' := by rw [Option.some.inj h]
      subst e1; subst e2
      refine Comes1.val (s := Instr.makeMap t (x.map a.eval)) (V := V) ?_ h2 h3 h4
      have hx := avalO_ok ht hp
      generalize x.map a.eval = X at hx
      unfold hintOk at hh
      split at hh
      · cases X with
        | none => exact h1
        | some _ => exact hx.elim
      · cases X with
        | none => exact hx.elim
        | some X =>
          simp only [ORel] at hx
          cases hx
          rw [← h1]
          simp [Instr.makeMap, run_und (mapT_some hq), asInt, asIntOf]
      · cases hh
    · cases h
  case range t x =>
    split at hr
    · rename_i hd
      cases hr
      simp only [AOp.run, E1.run, Option.bind_eq_some_iff] at h
      obtain ⟨p, hp, hu⟩ := h
      obtain ⟨U, w', φ', h1, h2, h3, h4⟩ := sound_rangeS (P := P) hi hd (aval_ok ht hp) hu
      exact Comes1.val h1 h2 h3 h4
    · cases hr
  case next x str =>
    cases str
    · simp only [resO] at hr; cases hr
    · simp only [resO] at hr
      cases hr
      simp only [AOp.run, E1.run, Option.bind_eq_some_iff] at h
      obtain ⟨p, hp, hu⟩ := h
      obtain ⟨w', h1, h2, h3, h4⟩ := sound_nextS (P := P) (ty := ty) hi (aval_ok ht hp) hu
      exact Comes1.val h1 h2 h3 h4
  case typeAssert x xt t ok =>
    split at hr
    · cases hr
    · rename_i d hd hni
      simp only [Option.map_eq_some_iff] at hr
      obtain ⟨z, hz, rfl⟩ := hr
      obtain ⟨i, hti, hzi, hzp⟩ := zeroT_some hz
      simp only [AOp.run, P1.run, Option.bind_eq_some_iff, Option.map_eq_some_iff, Prod.mk.injEq] at h
      obtain ⟨p, hp, u, hu, rfl, rfl⟩ := h
      obtain ⟨U, h1, h2⟩ := sound_assert (P := P) (w := w) (xt := xt) hni (fun ms e => hd ms e) hti hzi (VR.of_cells hzp) (aval_ok ht hp) hu
      exact Comes1.still hi h1 h2
    · cases hr
  case fieldAddr t x k =>
    simp only [Option.bind_eq_some_iff] at hr
    obtain ⟨fs, hfs, f, hf, s, hs, hr⟩ := hr
    obtain ⟨i, hti, rfl⟩ := sizeT_some hs
    split at hr
    · rename_i hz
      cases hr
      simp only [AOp.run, Option.bind_eq_some_iff, Option.map_eq_some_iff, Prod.mk.injEq] at h
      obtain ⟨p, hp, u, hu, rfl, rfl⟩ := h
      obtain ⟨U, h1, h2⟩ := sound_fieldAddr (P := P) (w := w) (fieldsT_some hfs) hf hti hz (aval_ok ht hp) hu
      exact Comes1.still hi h1 h2
    · cases hr
  case field t x k =>
    simp only [Option.bind_eq_some_iff, Option.map_eq_some_iff] at hr
    obtain ⟨fs, hfs, f, hf, s, hs, ag, hag, rfl⟩ := hr
    simp only [AOp.run, Option.bind_eq_some_iff, Option.map_eq_some_iff, Prod.mk.injEq] at h
    obtain ⟨p, hp, u, hu, rfl, rfl⟩ := h
    obtain ⟨U, h1, h2⟩ := sound_field (P := P) (w := w) (fieldsT_some hfs) hf hs hag (aval_ok ht hp) hu
    exact Comes1.still hi h1 h2
  case indexAddr t x i =>
    split at hr
    · rename_i e he
      simp only [Option.map_eq_some_iff] at hr
      obtain ⟨s, hs, rfl⟩ := hr
      obtain ⟨i', hti, rfl⟩ := sizeT_some hs
      simp only [AOp.run, Option.bind_eq_some_iff, Option.map_eq_some_iff, Prod.mk.injEq] at h
      obtain ⟨p, hp, q, hq, u, hu, rfl, rfl⟩ := h
      obtain ⟨U, h1, h2⟩ := sound_indexS (P := P) (w := w) (elemT_some he) hti (aval_ok ht hp) (aval_ok ht hq) hu
      exact Comes1.still hi h1 h2
    · simp only [Option.bind_eq_some_iff, Option.map_eq_some_iff] at hr
      obtain ⟨⟨n, e⟩, he, s, hs, rfl⟩ := hr
      obtain ⟨i', hti, rfl⟩ := sizeT_some hs
      simp only [AOp.run, Option.bind_eq_some_iff, Option.map_eq_some_iff, Prod.mk.injEq] at h
      obtain ⟨p, hp, q, hq, u, hu, rfl, rfl⟩ := h
      obtain ⟨U, h1, h2⟩ := sound_indexA (P := P) (w := w) (arrT_some he) hti (aval_ok ht hp) (aval_ok ht hq) hu
      exact Comes1.still hi h1 h2
  case index t x i =>
    split at hr
    · rename_i hd
      cases hr
      simp only [AOp.run, Option.bind_eq_some_iff, Option.map_eq_some_iff, Prod.mk.injEq] at h
      obtain ⟨p, hp, q, hq, u, hu, rfl, rfl⟩ := h
      obtain ⟨h1, h2⟩ := sound_indexStr (P := P) (w := w) hd (aval_ok ht hp) (aval_ok ht hq) hu
      exact Comes1.still hi h1 h2
    · rename_i n e hd
      simp only [Option.bind_eq_some_iff, Option.map_eq_some_iff] at hr
      obtain ⟨s, hs, ag, hag, rfl⟩ := hr
      obtain ⟨i', hti, rfl⟩ := sizeT_some hs
      simp only [AOp.run, Option.bind_eq_some_iff, Option.map_eq_some_iff, Prod.mk.injEq] at h
      obtain ⟨p, hp, q, hq, u, hu, rfl, rfl⟩ := h
      obtain ⟨U, h1, h2⟩ := sound_indexArr (P := P) (w := w) hd hti hag (aval_ok ht hp) (aval_ok ht hq) hu
      exact Comes1.still hi h1 h2
    · cases hr
  case slice t x lo hi' mx =>
    cases mx with
    | some mx =>
      simp only [resO, Option.bind_eq_some_iff, Option.map_eq_some_iff] at hr
      obtain ⟨e, he, s, hs, rfl⟩ := hr
      obtain ⟨i, hti, rfl⟩ := sizeT_some hs
      simp only [AOp.run, Option.bind_eq_some_iff, Option.map_eq_some_iff, Prod.mk.injEq] at h
      obtain ⟨p, hp, l, hl, q, hq, k, hk, u, hu, rfl, rfl⟩ := h
      obtain ⟨U, h1, h2⟩ := sound_slice3 (P := P) hi (elemT_some he) hti (aval_ok ht hp) (avalO_ok ht hl) (avalO_ok ht hq) (aval_ok ht hk) hu
      exact Comes1.still hi h1 h2
    | none =>
      simp only [resO] at hr
      split at hr
      · rename_i hd
        cases hr
        simp only [AOp.run, Option.bind_eq_some_iff, Option.map_eq_some_iff, Prod.mk.injEq] at h
        obtain ⟨p, hp, l, hl, q, hq, u, hu, rfl, rfl⟩ := h
        obtain ⟨h1, h2⟩ := sound_sliceStr (P := P) (w := w) hd (aval_ok ht hp) (avalO_ok ht hl) (avalO_ok ht hq) hu
        exact Comes1.still hi h1 h2
      · rename_i e hd
        simp only [Option.map_eq_some_iff] at hr
        obtain ⟨s, hs, rfl⟩ := hr
        obtain ⟨i', hti, rfl⟩ := sizeT_some hs
        simp only [AOp.run, Option.bind_eq_some_iff, Option.map_eq_some_iff, Prod.mk.injEq] at h
        obtain ⟨p, hp, l, hl, q, hq, u, hu, rfl, rfl⟩ := h
        obtain ⟨U, h1, h2⟩ := sound_sliceS (P := P) hi hd hti (aval_ok ht hp) (avalO_ok ht hl) (avalO_ok ht hq) hu
        exact Comes1.still hi h1 h2
      · rename_i n e hd
        simp only [Option.map_eq_some_iff] at hr
        obtain ⟨s, hs, rfl⟩ := hr
        obtain ⟨i', hti, rfl⟩ := sizeT_some hs
        simp only [AOp.run, Option.bind_eq_some_iff, Option.map_eq_some_iff, Prod.mk.injEq] at h
        obtain ⟨p, hp, l, hl, q, hq, u, hu, rfl, rfl⟩ := h
        obtain ⟨U, h1, h2⟩ := sound_sliceA (P := P) hi hd hti (aval_ok ht hp) (avalO_ok ht hl) (avalO_ok ht hq) hu
        exact Comes1.still hi h1 h2
      · cases hr
  case makeSlice t n c =>
    simp only [Option.bind_eq_some_iff] at hr
    obtain ⟨e, he, i, hti, z, hz, hr⟩ := hr
    obtain ⟨i', hti', hzi, hp⟩ := zeroT_some hz
    rw [hti] at hti'; cases hti'
    split at hr
    · rename_i hs
      cases hr
      simp only [AOp.run, Option.bind_eq_some_iff] at h
      obtain ⟨p, hp', q, hq, h⟩ := h
      obtain ⟨V, w', φ', h1, h2, h3, h4⟩ := sound_makeS (P := P) hi (elemT_some he) hti hzi hp hs (aval_ok ht hp') (aval_ok ht hq) h
      exact Comes1.val h1 h2 h3 h4
    · cases hr
  case makeInterface t x =>
    simp only [Option.bind_eq_some_iff] at hr
    obtain ⟨d, hd, hr⟩ := hr
    split at hr
    · cases hr
    · rename_i hnot
      cases hr
      simp only [AOp.run, Option.map_eq_some_iff, Prod.mk.injEq] at h
      obtain ⟨p, hp, rfl, rfl⟩ := h
      refine Comes1.still (V := .iface t (a.eval x)) hi ?_ (.iface t _ _ (aval_ok ht hp))
      simp only [Instr.makeInterface, Sem.run_bind, run_und hd, Result.andThen_ok]
      cases d <;> first | rfl | exact (hnot _ rfl).elim
  case extract x i =>
    cases hr
    simp only [AOp.run, Option.bind_eq_some_iff, Option.map_eq_some_iff, Prod.mk.injEq] at h
    obtain ⟨p, hp, u, hu, rfl, rfl⟩ := h
    have hv := aval_ok ht hp
    generalize hx : a.eval x = X at hv
    unfold runExtract at hu
    split at hu
    · cases hv with
      | tuple xs ys h1 h2 =>
      obtain ⟨U, hU, r⟩ := (VRs.of_array h1 h2).get (i := i) (x := u) (by simpa using hu)
      refine Comes1.quiet hi r ?_
      have hU' : ys[i]? = some U := by simpa using hU
      simp [execOp, hx, Instr.extract, hU']
    · cases hu
  all_goals (first | cases hr | (simp only [resO] at hr; cases hr))

/- functions without a text -/
theorem run_ext {P : Program} {w : World} {a : Act} {f : FuncId} {fn : Func} {e : Array Value → Sem Value} {xs : Array Operand} {tys : Array TypeId} {ty : TypeId} {d : Option Tmp} {pos : String} {af : Array Edge} {g : Option (Nat × Bool)} {V : Value} {w' : World}
    (hf : P.funcs[f]? = some fn) (hn : ¬ fn.name = "runtime.NumGoroutine") (hb : fn.body.isNone = true) (h1 : Extern.findNext fn = none) (h2 : Extern.find fn = some e) (hev : (e (xs.map a.eval)).run P w = .ok V w') :
    (execOp a.eval ⟨d, .call { callee := .value (.func f), args := xs, argTypes := tys }, ty, pos, af, g⟩).run P w = .ok (.value V) w' := by
  have hx : a.eval (.func f) = .func (.func f) #[] #[] := rfl
  have hb' : fn.body = none := by simpa using hb
  simp [execOp, resolve, Deferred.ofValue, hx, invoke, callFunc, hf, hn, hb', h1, h2, hev]

theorem find_noEscape {fn : Func} (h : fn.name = "internal/abi.NoEscape") (ho : fn.origin = "") : Extern.findNext fn = none ∧ Extern.find fn = some Extern.AbiNoEscape.same := by
  refine ⟨?_, ?_⟩
  · unfold Extern.findNext; simp only [h, ho]; kernel_rfl
  · unfold Extern.find; simp only [h, ho]; kernel_rfl
theorem find_noZero {fn : Func} (h : fn.name = "internal/bytealg.MakeNoZero") (ho : fn.origin = "") : Extern.findNext fn = none ∧ Extern.find fn = some (Extern.BytealgMakeNoZero.makeNoZero fn.params fn.resultTypes) := by
  refine ⟨?_, ?_⟩
  · unfold Extern.findNext; simp only [h, ho]; kernel_rfl
  · unfold Extern.find; simp only [h, ho]; kernel_rfl
theorem find_idxByte {fn : Func} (h : fn.name = "internal/bytealg.IndexByteString") (ho : fn.origin = "") : Extern.findNext fn = none ∧ Extern.find fn = some Extern.BytealgIndexByte.indexByte := by
  refine ⟨?_, ?_⟩
  · unfold Extern.findNext; simp only [h, ho]; kernel_rfl
  · unfold Extern.find; simp only [h, ho]; kernel_rfl
theorem find_cloneM {fn : Func} (h : fn.name = "maps.clone") (ho : fn.origin = "") : Extern.findNext fn = none ∧ Extern.find fn = some Extern.MapsClone.clone := by
  refine ⟨?_, ?_⟩
  · unfold Extern.findNext; simp only [h, ho]; kernel_rfl
  · unfold Extern.find; simp only [h, ho]; kernel_rfl

theorem extOf_some {P : Program} {f : FuncId} {p : ExtK × Func} (h : extOf P f = some p) : P.funcs[f]? = some p.2 ∧ p.2.body.isNone = true ∧ p.2.origin = "" ∧ extK p.2.name = some p.1 := by
  unfold extOf at h
  split at h
  · rename_i fn hfn
    split at h
    · rename_i hb
      simp only [Option.map_eq_some_iff] at h
      obtain ⟨k, hk, rfl⟩ := h
      exact ⟨hfn, hb.1, hb.2, hk⟩
    · cases h
  · cases h

theorem extK_name {n : String} {k : ExtK} (h : extK n = some k) : n = (match k with | .noEscape => "internal/abi.NoEscape" | .noZero => "internal/bytealg.MakeNoZero" | .idxByte => "internal/bytealg.IndexByteString" | .cloneM => "maps.clone") := by
  unfold extK at h
  split at h
  · cases h; assumption
  · split at h
    · cases h; assumption
    · split at h
      · cases h; assumption
      · split at h
        · cases h; assumption
        · cases h

theorem resExt_sound {P : Program} {f : FuncId} {xs : Array Operand} {tys : Array TypeId} {ao : AOp} (hr : resExt P f xs.toList = some ao) {φ : Ren} {m m' : Mem} {w : World} (hi : Inv φ m w) {ts : List Value} {a : Act} (ht : VRs φ ts a.tmps.toList) {v : Value} (h : ao.run ts m = some (v, m'))
    {ty : TypeId} {d : Option Tmp} {pos : String} {af : Array Edge} {g : Option (Nat × Bool)} :
    Comes1 φ m w ((execOp a.eval ⟨d, .call { callee := .value (.func f), args := xs, argTypes := tys }, ty, pos, af, g⟩).run P w) v m' := by
  simp only [resExt, Option.bind_eq_some_iff] at hr
  obtain ⟨⟨k, fn⟩, hp, hr⟩ := hr
  obtain ⟨hf, hb, ho, hk⟩ := extOf_some hp
  have hn := extK_name hk
  simp only at hf hb ho hn
  have hne : ¬ fn.name = "runtime.NumGoroutine" := by
    intro e
    simp only [e] at hk
    have : extK "runtime.NumGoroutine" = none := by decide
    rw [this] at hk; cases hk
  split at hr
  · rename_i _ _ x hk' hx
    obtain rfl := hk'
    have e2 : xs = #[x] := by apply Array.toList_inj.1; simpa using hx
    subst e2
    cases hr
    simp only [AOp.run, Option.map_eq_some_iff, Prod.mk.injEq] at h
    obtain ⟨p, hp, rfl, rfl⟩ := h
    obtain ⟨h1, h2⟩ := find_noEscape hn ho
    exact ⟨a.eval x, w, φ, .inl (run_ext hf hne hb h1 h2 (by simpa using Lib.run_noEscape w (a.eval x))), aval_ok ht hp, hi, Frm.refl φ m w⟩
  · rename_i _ _ x hk' hx
    obtain rfl := hk'
    have e2 : xs = #[x] := by apply Array.toList_inj.1; simpa using hx
    subst e2
    split at hr
    · rename_i t hrt
      have e3 : fn.resultTypes = #[t] := by apply Array.toList_inj.1; simpa using hrt
      simp only [Option.map_eq_some_iff] at hr
      obtain ⟨e, he, rfl⟩ := hr
      simp only [AOp.run, E1.run, Option.bind_eq_some_iff] at h
      obtain ⟨p, hp, h⟩ := h
      obtain ⟨h1, h2⟩ := find_noZero hn ho
      rw [e3] at h2
      obtain ⟨U, w', φ', h3, h4, h5, h6⟩ := sound_noZero (P := P) (ps := fn.params) hi (elemT_some he) (aval_ok ht hp) h
      exact ⟨U, w', φ', .inl (run_ext hf hne hb h1 h2 (by simpa using h3)), h4, h5, h6⟩
    · cases hr
  · rename_i _ _ x y hk' hx
    obtain rfl := hk'
    have e2 : xs = #[x, y] := by apply Array.toList_inj.1; simpa using hx
    subst e2
    cases hr
    simp only [AOp.run, P2.run, Option.bind_eq_some_iff, Option.map_eq_some_iff, Prod.mk.injEq] at h
    obtain ⟨p, hp, q, hq, u, hu, rfl, rfl⟩ := h
    obtain ⟨h1, h2⟩ := find_idxByte hn ho
    have hx := aval_ok ht hp
    have hy := aval_ok ht hq
    unfold runIdxByte at hu
    split at hu
    · cases hu
      generalize hA : a.eval x = A at hx
      generalize hB : a.eval y = B at hy
      cases hx; cases hy
      rename_i s c
      refine ⟨_, w, φ, .inl (run_ext hf hne hb h1 h2 (?_ : _ = Result.ok _ _)), .int .., hi, Frm.refl φ m w⟩
      simp only [List.map_toArray, List.map_cons, List.map_nil, hA, hB]
      exact Lib.run_indexByteString s c w
    · cases hu
  · rename_i _ _ x hk' hx
    obtain rfl := hk'
    have e2 : xs = #[x] := by apply Array.toList_inj.1; simpa using hx
    subst e2
    cases hr
    simp only [AOp.run, E1.run, Option.bind_eq_some_iff] at h
    obtain ⟨p, hp, h⟩ := h
    obtain ⟨h1, h2⟩ := find_cloneM hn ho
    obtain ⟨U, w', φ', h3, h4, h5, h6⟩ := sound_cloneM (P := P) hi (aval_ok ht hp) h
    exact ⟨U, w', φ', .inl (run_ext hf hne hb h1 h2 (by simpa using h3)), h4, h5, h6⟩
  · cases hr

theorem notCall_some {a : Option AOp} {o : AOp} (h : notCall a = some o) : a = some o ∧ o.isCall = false := by
  simp only [notCall, Option.bind_eq_some_iff] at h
  obtain ⟨b, hb, h⟩ := h
  split at h
  · cases h
  · rename_i hc; cases h; exact ⟨hb, by simpa using hc⟩

theorem res_isCall {P : Program} {o : Oper} {ao : AOp} (hr : res P o = some ao) : ao.isCall = false ∨
    (∃ (x : Operand) (args : Array Operand) (tys : Array TypeId), o.op = .call { callee := .value x, args, argTypes := tys } ∧ ((∃ f, x = .func f ∧ ao = .call f args.toList ∧ goodFn P f = true) ∨ ao = .callv x args.toList)) := by
  unfold res at hr
  split at hr
  · rename_i c hc
    obtain ⟨callee, xs, tys⟩ := c
    unfold resCall at hr
    split at hr
    · exact .inl (notCall_some hr).2
    · rename_i f he
      simp only at he; subst he
      split at hr
      · rename_i hg; cases hr; exact .inr ⟨_, xs, tys, hc, .inl ⟨f, rfl, rfl, hg⟩⟩
      · exact .inl (notCall_some hr).2
    · rename_i x hx he
      simp only at he; subst he
      cases hr; exact .inr ⟨x, xs, tys, hc, .inr rfl⟩
    · cases hr
  · exact .inl (notCall_some hr).2

theorem res_sound {P : Program} {o : Oper} {ao : AOp} (hr : res P o = some ao) {φ : Ren} {m m' : Mem} {w : World} (hi : Inv φ m w) {ts : List Value} {a : Act} (ht : VRs φ ts a.tmps.toList) {v : Value} (h : ao.run ts m = some (v, m')) :
    Comes1 φ m w ((execOp a.eval o).run P w) v m' := by
  unfold res at hr
  split at hr
  · rename_i c hc
    obtain ⟨dst, op, ty, pos, af, g⟩ := o
    simp only at hc; subst hc
    obtain ⟨callee, xs, tys⟩ := c
    unfold resCall at hr
    split at hr
    · rename_i b he
      simp only at he; subst he
      exact res_builtin (notCall_some hr).1 hi ht h
    · rename_i f he
      simp only at he; subst he
      split at hr
      · cases hr; simp [AOp.run] at h
      · exact resExt_sound (notCall_some hr).1 hi ht h
    · cases hr; simp [AOp.run] at h
    · cases hr
  · exact resO_sound (notCall_some hr).1 hi ht h

end Go.Fx
