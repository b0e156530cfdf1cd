/- The main theorem on one operation. -/
import Derived.Test.YtbihanbnnhipjaaFxSound
namespace Go.Fx
open Go
set_option linter.unusedSimpArgs false
set_option linter.unusedVariables false

theorem mapM_fields {P : Program} {w : World} : ∀ {l : List Field} {pl : List (Nat × Nat)}, (l.mapM fun f => (sizeT P f.type).map fun s => (f.offset, s)) = some pl →
    (l.mapM (fun f => do pure (f.offset, ← sizeOf f.type)) : Sem (List (Nat × Nat))).run P w = .ok pl w
  | [], pl, h => by simp at h; subst h; simp
  | f :: l, pl, h => by
    simp only [List.mapM_cons, Option.bind_eq_bind, Option.bind_eq_some_iff, Option.map_eq_some_iff, Option.pure_def, Option.some.injEq] at h
    obtain ⟨p, ⟨s, hs, rfl⟩, r, hr, rfl⟩ := h
    obtain ⟨i, hi, rfl⟩ := sizeT_some hs
    have := mapM_fields (w := w) hr
    simp only [List.mapM_cons, Sem.run_bind, run_size hi, Result.andThen_ok, Sem.run_pure]
    rw [this]; rfl

theorem sound_build {P : Program} {φ : Ren} {w : World} {t : TypeId} {fs : Array Field} {z : Value} {pl : List (Nat × Nat)} {i : TypeInfo} (hfs : P.underlying t = some (.struct fs)) (hti : P.info? t = some i) (hz : i.zero = some z) (hp : z.cells.toList.all plain = true)
    (hpl : fieldPlaces P fs = some pl) {ps : List (Nat × Nat × Value)} {PS : Array (Nat × Value)} (hP : PartsR φ (fun i => pl[i]?) ps PS.toList) {c : List Value} (h : afill z.cells.toList ps = some c) :
    ∃ V, (Instr.build t PS).run P w = .ok V w ∧ VR φ (.agg c.toArray) V := by
  obtain ⟨R, hR, r⟩ := afill_ok (place := fun i => pl.toArray[i]?) ps PS.toList z.cells.toList z.cells c (by simpa using hP) (VRs.plain hp) h
  refine ⟨.agg R, ?_, by have := r.agg; simpa using this⟩
  have hm : (fs.mapM (fun f => do pure (f.offset, ← sizeOf f.type)) : Sem (Array (Nat × Nat))).run P w = .ok pl.toArray w := by
    have := mapM_fields (w := w) (P := P) (l := fs.toList) hpl
    rw [← Array.toList_mapM] at this
    simp only [Sem.run_map] at this
    generalize (fs.mapM (fun f => do pure (f.offset, ← sizeOf f.type)) : Sem (Array (Nat × Nat))).run P w = q at this ⊢
    cases q with
    | ok q w' => simp at this; obtain ⟨rfl, rfl⟩ := this; simp
    | halt q w' => simp at this
  simp only [Instr.build, Sem.run_bind, run_zero hti hz, Result.andThen_ok, run_und hfs, hm]
  rw [hR]
  simp

theorem sound_buildSlice {P : Program} {φ : Ren} {m : Mem} {w : World} (hi : Inv φ m w) {t e : TypeId} {i : TypeInfo} {z : Value} {len : Nat} (hte : P.underlying t = some (.slice e)) (hti : P.info? e = some i) (hz : i.zero = some z) (hp : z.cells.toList.all plain = true) (hs : z.cells.size = i.size) (hlen : len * i.size ≤ 2 ^ 24)
    {ps : List (Nat × Nat × Value)} {PS : Array (Nat × Value)} (hP : PartsR φ (fun k => some (k * i.size, i.size)) ps PS.toList) {c : List Value} (h : afill (List.replicate len z.cells.toList).flatten ps = some c) :
    ∃ V w' φ', (Instr.buildSlice t len PS).run P w = .ok V w' ∧ VR φ' (runBuildSlice e len c m).1 V ∧ Inv φ' (runBuildSlice e len c m).2 w' ∧ Frm φ m w φ' (runBuildSlice e len c m).2 w' := by
  have hrep := replicate_flatten_eq z.cells i.size len hs
  have hplain : (List.replicate len z.cells.toList).flatten.all plain = true := by
    rw [List.all_eq_true]
    intro v hv
    simp only [List.mem_flatten, List.mem_replicate] at hv
    obtain ⟨l, ⟨_, rfl⟩, hv⟩ := hv
    exact List.all_eq_true.1 hp v hv
  obtain ⟨R, hR, r⟩ := afill_ok ps PS.toList _ ((Array.range (len * i.size)).map (z.cells[· % z.cells.size]!)) c hP (by rw [hrep]; exact VRs.plain hplain) h
  obtain ⟨φ', h1, h2, h3⟩ := hi.allocCells e r
  refine ⟨.slice (some ⟨w.heap.size, 0, none⟩) len len, _, φ', ?_, ?_, h1, h2⟩
  · have hn : ¬ (len * i.size > 2 ^ 24) := by omega
    simp only [Instr.buildSlice, Sem.run_bind, run_und hte, Result.andThen_ok, run_size hti, Sem.run_ite, if_neg hn, Sem.run_pure]
    by_cases h0 : len * i.size = 0
    · rw [if_pos h0]
      have e0 : (Array.range (len * i.size)).map ((#[] : Array Value)[· % (#[] : Array Value).size]!) = (Array.range (len * i.size)).map (z.cells[· % z.cells.size]!) := by rw [h0]; simp
      rw [e0, hR]
      simp [newRow]
    · rw [if_neg h0]
      simp only [Sem.run_bind, run_zero hti hz, Result.andThen_ok, Sem.run_pure]
      rw [hR]
      simp [newRow]
  · exact VR.sliceEx m.next 0 len len ⟨w.heap.size, 0, none, 0⟩ h3 rfl

theorem res_sound {P : Program} {o : Oper} {ao : AOp} (hr : res P o = some ao) {φ : Ren} {m m' : Mem} {w : World} (hi : Inv φ m w) {ts : List Value} {a : Act} (ht : VRs φ ts a.tmps.toList) {v : Value} (h : ao.run ts m = some (v, m')) :
    Comes1 φ m w ((execOp a.eval o).run P w) v m' := by
  obtain ⟨dst, op, ty, pos, af, g⟩ := o
  cases op <;> simp only [res] at hr
  case move x =>
    cases hr
    simp only [AOp.run, Option.map_eq_some_iff, Prod.mk.injEq] at h
    obtain ⟨p, hp, rfl, rfl⟩ := h
    exact Comes1.quiet hi (aval_ok ht hp) rfl
  case assign x =>
    cases hr
    simp only [AOp.run, Option.map_eq_some_iff, Prod.mk.injEq] at h
    obtain ⟨p, hp, rfl, rfl⟩ := h
    exact Comes1.quiet hi (aval_ok ht hp) rfl
  case nilCheck x =>
    cases hr
    simp only [AOp.run, Option.bind_eq_some_iff, Option.map_eq_some_iff, Prod.mk.injEq] at h
    obtain ⟨p, hp, u, hu, rfl, rfl⟩ := h
    have hv := aval_ok ht hp
    generalize hx : a.eval x = X at hv
    unfold runNilck at hu
    split at hu
    · cases hu
      cases hv with
      | ptr b off l hl => exact Comes1.quiet hi (.ptr b off l hl) (by simp [execOp, hx])
    · cases hu
      cases hv with
      | func _ _ ys h1 h2 => exact Comes1.quiet (V := .func (.func _) #[] ys) hi (.func _ _ ys h1 h2) (by simp [execOp, hx])
    · cases hu
  case pick c x y =>
    cases hr
    simp only [AOp.run, Option.bind_eq_some_iff, Option.map_eq_some_iff, Prod.mk.injEq] at h
    obtain ⟨p, hp, t, htt, q, hq, r, hrr, rfl, rfl⟩ := h
    have hv := aval_ok ht hp
    generalize hx : a.eval c = C at hv
    unfold asB at htt
    split at htt
    · cases htt
      cases hv
      cases t
      · exact Comes1.quiet hi (aval_ok ht hrr) (by simp [execOp, hx, asBool])
      · exact Comes1.quiet hi (aval_ok ht hq) (by simp [execOp, hx, asBool])
    · cases htt
  case alloc e =>
    simp only [Option.map_eq_some_iff] at hr
    obtain ⟨z, hz, rfl⟩ := hr
    obtain ⟨i, hti, hzi, hp⟩ := zeroT_some hz
    simp only [AOp.run, Option.some.injEq] at h
    have e1 : (runBox e z m).1 = v := by rw [h]
    have e2 : (runBox e z m).2 = m' := by rw [h]
    subst e1; subst e2
    obtain ⟨V, w', φ', h1, h2, h3, h4⟩ := sound_alloc (P := P) hi hti hzi (VR.of_cells hp)
    exact Comes1.val h1 h2 h3 h4
  case box e x =>
    cases hr
    simp only [AOp.run, Option.map_eq_some_iff] at h
    obtain ⟨p, hp, h⟩ := h
    have e1 : (runBox e p m).1 = v := by rw [h]
    have e2 : (runBox e p m).2 = m' := by rw [h]
    subst e1; subst e2
    obtain ⟨V, w', φ', h1, h2, h3, h4⟩ := sound_box (P := P) hi e (aval_ok ht hp)
    exact Comes1.val h1 h2 h3 h4
  case build t ps =>
    simp only [Option.bind_eq_some_iff, Option.map_eq_some_iff] at hr
    obtain ⟨fs, hfs, z, hz, pl, hpl, l, hl, rfl⟩ := hr
    obtain ⟨i, hti, hzi, hp⟩ := zeroT_some hz
    simp only [AOp.run, Option.bind_eq_some_iff, Option.map_eq_some_iff, Prod.mk.injEq] at h
    obtain ⟨r, hr, c, hc, rfl, rfl⟩ := h
    have hP := aparts_ok ht hl hr
    obtain ⟨V, h1, h2⟩ := sound_build (P := P) (w := w) (PS := ps.map fun (i, x) => (i, a.eval x)) (fieldsT_some hfs) hti hzi hp hpl (by simpa using hP) hc
    exact Comes1.still hi h1 h2
  case buildSlice t len ps =>
    simp only [Option.bind_eq_some_iff] at hr
    obtain ⟨e, he, s, hs, z, hz, hr⟩ := hr
    obtain ⟨i, hti, rfl⟩ := sizeT_some hs
    obtain ⟨i', hti', hzi, hp⟩ := zeroT_some hz
    rw [hti] at hti'; cases hti'
    split at hr
    · rename_i hh
      simp only [Option.map_eq_some_iff] at hr
      obtain ⟨l, hl, rfl⟩ := hr
      simp only [AOp.run, Option.bind_eq_some_iff, Option.map_eq_some_iff] at h
      obtain ⟨r, hr, c, hc, h⟩ := h
      have hP := aparts_ok ht hl hr
      have e1 : (runBuildSlice e len c m).1 = v := by rw [h]
      have e2 : (runBuildSlice e len c m).2 = m' := by rw [h]
      subst e1; subst e2
      obtain ⟨V, w', φ', h1, h2, h3, h4⟩ := sound_buildSlice (P := P) (PS := ps.map fun (i, x) => (i, a.eval x)) hi (elemT_some he) hti hzi hp hh.2.1 hh.1 (by simpa using hP) hc
      exact Comes1.val h1 h2 h3 h4
    · cases hr
  case load t x =>
    simp only [Option.bind_eq_some_iff] at hr
    obtain ⟨ag, hag, hr⟩ := hr
    cases ag
    · simp only [Bool.false_eq_true, if_false, Option.some.injEq] at hr
      subst hr
      simp only [AOp.run, Option.bind_eq_some_iff, Option.map_eq_some_iff, Prod.mk.injEq] at h
      obtain ⟨p, hp, u, hu, rfl, rfl⟩ := h
      obtain ⟨U, h1, h2⟩ := sound_load1 (P := P) hi hag (aval_ok ht hp) hu
      exact Comes1.still hi h1 h2
    · simp only [if_true, Option.map_eq_some_iff] at hr
      obtain ⟨n, hn, rfl⟩ := hr
      obtain ⟨i, hti, rfl⟩ := sizeT_some hn
      simp only [AOp.run, Option.bind_eq_some_iff, Option.map_eq_some_iff, Prod.mk.injEq] at h
      obtain ⟨p, hp, u, hu, rfl, rfl⟩ := h
      obtain ⟨U, h1, h2⟩ := sound_loadN (P := P) hi hag hti (aval_ok ht hp) hu
      exact Comes1.still hi h1 h2
  case store t x y =>
    simp only [Option.map_eq_some_iff] at hr
    obtain ⟨n, hn, rfl⟩ := hr
    obtain ⟨i, hti, rfl⟩ := sizeT_some hn
    simp only [AOp.run, Option.bind_eq_some_iff, Option.map_eq_some_iff, Prod.mk.injEq] at h
    obtain ⟨p, hp, q, hq, u, hu, rfl, rfl⟩ := h
    obtain ⟨w', h1, h2, h3⟩ := sound_store (P := P) hi hti (aval_ok ht hp) (aval_ok ht hq) hu
    exact ⟨undef, w', φ, .inr ⟨by simp [execOp, h1], rfl⟩, VR.undef φ, h2, h3⟩
  case binOp op t x y ty2 =>
    by_cases h1 : op = .eql
    · subst h1
      exact res_eq (neg := false) hr hi ht h
    · by_cases h2 : op = .neq
      · subst h2
        exact res_eq (neg := true) hr hi ht h
      · have hr' : some (AOp.arith op x y) = some ao := by
          cases op <;> simp at h1 h2 <;> exact hr
        cases hr'
        simp only [AOp.run, Option.bind_eq_some_iff, Option.map_eq_some_iff, Prod.mk.injEq] at h
        obtain ⟨p, hp, q, hq, u, hu, rfl, rfl⟩ := h
        obtain ⟨h1, h2⟩ := sound_arith (P := P) (w := w) (t := t) (x := x) (y := y) (aval_ok ht hp) (aval_ok ht hq) hu
        exact Comes1.still hi h1 h2
  case unOp op t x =>
    cases hr
    simp only [AOp.run, Option.bind_eq_some_iff, Option.map_eq_some_iff, Prod.mk.injEq] at h
    obtain ⟨p, hp, u, hu, rfl, rfl⟩ := h
    obtain ⟨h1, h2⟩ := sound_un (P := P) (w := w) (aval_ok ht hp) hu
    exact Comes1.still hi h1 h2
  case convert s d x =>
    split at hr
    · rename_i hs hd
      cases hr
      simp only [AOp.run, Option.bind_eq_some_iff, Option.map_eq_some_iff, Prod.mk.injEq] at h
      obtain ⟨p, hp, u, hu, rfl, rfl⟩ := h
      obtain ⟨h1, h2⟩ := sound_conv (P := P) (w := w) hs hd (aval_ok ht hp) hu
      exact Comes1.still hi h1 h2
    · cases hr
    · rename_i hs hd
      split at hr
      · rename_i he
        cases hr
        simp only [AOp.run, Option.bind_eq_some_iff, Option.map_eq_some_iff, Prod.mk.injEq] at h
        obtain ⟨p, hp, u, hu, rfl, rfl⟩ := h
        obtain ⟨h1, h2⟩ := sound_b2s (P := P) hi hs hd he (aval_ok ht hp) hu
        exact Comes1.still hi h1 h2
      · cases hr
    · cases hr
  case makeFunc fn first captured =>
    cases fn <;> simp only [res] at hr <;> try (cases hr; done)
    split at hr
    · rename_i hf
      cases hr
      simp only [AOp.run, Option.map_eq_some_iff, Prod.mk.injEq] at h
      obtain ⟨l, hl, rfl, rfl⟩ := h
      have := avals_ok ht hl
      have hfe : first = #[] := by simpa using hf
      subst hfe
      refine Comes1.quiet hi (.func _ l.toArray (captured.map a.eval) ?_ ?_) (by simp [execOp, Instr.makeFunc])
      · have := this.1; simpa using this
      · intro i x y hx hy
        exact this.2 i x y (by simpa using hx) (by simpa using hy)
    · cases hr
  case fieldAddr t x k =>
    simp only [Option.bind_eq_some_iff] at hr
    obtain ⟨fs, hfs, f, hf, s, hs, hr⟩ := hr
    obtain ⟨i, hti, rfl⟩ := sizeT_some hs
    split at hr
    · rename_i hz
      cases hr
      simp only [AOp.run, Option.bind_eq_some_iff, Option.map_eq_some_iff, Prod.mk.injEq] at h
      obtain ⟨p, hp, u, hu, rfl, rfl⟩ := h
      obtain ⟨U, h1, h2⟩ := sound_fieldAddr (P := P) (w := w) (fieldsT_some hfs) hf hti hz (aval_ok ht hp) hu
      exact Comes1.still hi h1 h2
    · cases hr
  case field t x k =>
    simp only [Option.bind_eq_some_iff, Option.map_eq_some_iff] at hr
    obtain ⟨fs, hfs, f, hf, s, hs, ag, hag, rfl⟩ := hr
    simp only [AOp.run, Option.bind_eq_some_iff, Option.map_eq_some_iff, Prod.mk.injEq] at h
    obtain ⟨p, hp, u, hu, rfl, rfl⟩ := h
    obtain ⟨U, h1, h2⟩ := sound_field (P := P) (w := w) (fieldsT_some hfs) hf hs hag (aval_ok ht hp) hu
    exact Comes1.still hi h1 h2
  case indexAddr t x i =>
    split at hr
    · rename_i e he
      simp only [Option.map_eq_some_iff] at hr
      obtain ⟨s, hs, rfl⟩ := hr
      obtain ⟨i', hti, rfl⟩ := sizeT_some hs
      simp only [AOp.run, Option.bind_eq_some_iff, Option.map_eq_some_iff, Prod.mk.injEq] at h
      obtain ⟨p, hp, q, hq, u, hu, rfl, rfl⟩ := h
      obtain ⟨U, h1, h2⟩ := sound_indexS (P := P) (w := w) (elemT_some he) hti (aval_ok ht hp) (aval_ok ht hq) hu
      exact Comes1.still hi h1 h2
    · simp only [Option.bind_eq_some_iff, Option.map_eq_some_iff] at hr
      obtain ⟨⟨n, e⟩, he, s, hs, rfl⟩ := hr
      obtain ⟨i', hti, rfl⟩ := sizeT_some hs
      simp only [AOp.run, Option.bind_eq_some_iff, Option.map_eq_some_iff, Prod.mk.injEq] at h
      obtain ⟨p, hp, q, hq, u, hu, rfl, rfl⟩ := h
      obtain ⟨U, h1, h2⟩ := sound_indexA (P := P) (w := w) (arrT_some he) hti (aval_ok ht hp) (aval_ok ht hq) hu
      exact Comes1.still hi h1 h2
  case index t x i =>
    split at hr
    · rename_i hd
      cases hr
      simp only [AOp.run, Option.bind_eq_some_iff, Option.map_eq_some_iff, Prod.mk.injEq] at h
      obtain ⟨p, hp, q, hq, u, hu, rfl, rfl⟩ := h
      obtain ⟨h1, h2⟩ := sound_indexStr (P := P) (w := w) hd (aval_ok ht hp) (aval_ok ht hq) hu
      exact Comes1.still hi h1 h2
    · rename_i n e hd
      simp only [Option.bind_eq_some_iff, Option.map_eq_some_iff] at hr
      obtain ⟨s, hs, ag, hag, rfl⟩ := hr
      obtain ⟨i', hti, rfl⟩ := sizeT_some hs
      simp only [AOp.run, Option.bind_eq_some_iff, Option.map_eq_some_iff, Prod.mk.injEq] at h
      obtain ⟨p, hp, q, hq, u, hu, rfl, rfl⟩ := h
      obtain ⟨U, h1, h2⟩ := sound_indexArr (P := P) (w := w) hd hti hag (aval_ok ht hp) (aval_ok ht hq) hu
      exact Comes1.still hi h1 h2
    · cases hr
  case slice t x lo hi' mx =>
    cases mx with
    | some mx =>
      simp only [res, Option.bind_eq_some_iff, Option.map_eq_some_iff] at hr
      obtain ⟨e, he, s, hs, rfl⟩ := hr
      obtain ⟨i, hti, rfl⟩ := sizeT_some hs
      simp only [AOp.run, Option.bind_eq_some_iff, Option.map_eq_some_iff, Prod.mk.injEq] at h
      obtain ⟨p, hp, l, hl, q, hq, k, hk, u, hu, rfl, rfl⟩ := h
      obtain ⟨U, h1, h2⟩ := sound_slice3 (P := P) hi (elemT_some he) hti (aval_ok ht hp) (avalO_ok ht hl) (avalO_ok ht hq) (aval_ok ht hk) hu
      exact Comes1.still hi h1 h2
    | none =>
      simp only [res] at hr
      split at hr
      · rename_i hd
        cases hr
        simp only [AOp.run, Option.bind_eq_some_iff, Option.map_eq_some_iff, Prod.mk.injEq] at h
        obtain ⟨p, hp, l, hl, q, hq, u, hu, rfl, rfl⟩ := h
        obtain ⟨h1, h2⟩ := sound_sliceStr (P := P) (w := w) hd (aval_ok ht hp) (avalO_ok ht hl) (avalO_ok ht hq) hu
        exact Comes1.still hi h1 h2
      · rename_i e hd
        simp only [Option.map_eq_some_iff] at hr
        obtain ⟨s, hs, rfl⟩ := hr
        obtain ⟨i', hti, rfl⟩ := sizeT_some hs
        simp only [AOp.run, Option.bind_eq_some_iff, Option.map_eq_some_iff, Prod.mk.injEq] at h
        obtain ⟨p, hp, l, hl, q, hq, u, hu, rfl, rfl⟩ := h
        obtain ⟨U, h1, h2⟩ := sound_sliceS (P := P) hi hd hti (aval_ok ht hp) (avalO_ok ht hl) (avalO_ok ht hq) hu
        exact Comes1.still hi h1 h2
      · rename_i n e hd
        simp only [Option.map_eq_some_iff] at hr
        obtain ⟨s, hs, rfl⟩ := hr
        obtain ⟨i', hti, rfl⟩ := sizeT_some hs
        simp only [AOp.run, Option.bind_eq_some_iff, Option.map_eq_some_iff, Prod.mk.injEq] at h
        obtain ⟨p, hp, l, hl, q, hq, u, hu, rfl, rfl⟩ := h
        obtain ⟨U, h1, h2⟩ := sound_sliceA (P := P) hi hd hti (aval_ok ht hp) (avalO_ok ht hl) (avalO_ok ht hq) hu
        exact Comes1.still hi h1 h2
      · cases hr
  case makeSlice t n c =>
    simp only [Option.bind_eq_some_iff] at hr
    obtain ⟨e, he, i, hti, z, hz, hr⟩ := hr
    obtain ⟨i', hti', hzi, hp⟩ := zeroT_some hz
    rw [hti] at hti'; cases hti'
    split at hr
    · rename_i hs
      cases hr
      simp only [AOp.run, Option.bind_eq_some_iff] at h
      obtain ⟨p, hp', q, hq, h⟩ := h
      obtain ⟨V, w', φ', h1, h2, h3, h4⟩ := sound_makeS (P := P) hi (elemT_some he) hti hzi hp hs (aval_ok ht hp') (aval_ok ht hq) h
      exact Comes1.val h1 h2 h3 h4
    · cases hr
  case makeInterface t x =>
    simp only [Option.bind_eq_some_iff] at hr
    obtain ⟨d, hd, hr⟩ := hr
    split at hr
    · cases hr
    · rename_i hnot
      cases hr
      simp only [AOp.run, Option.map_eq_some_iff, Prod.mk.injEq] at h
      obtain ⟨p, hp, rfl, rfl⟩ := h
      refine Comes1.still (V := .iface t (a.eval x)) hi ?_ (.iface t _ _ (aval_ok ht hp))
      simp only [Instr.makeInterface, Sem.run_bind, run_und hd, Result.andThen_ok]
      cases d <;> first | rfl | exact (hnot _ rfl).elim
  case extract x i =>
    cases hr
    simp only [AOp.run, Option.bind_eq_some_iff, Option.map_eq_some_iff, Prod.mk.injEq] at h
    obtain ⟨p, hp, u, hu, rfl, rfl⟩ := h
    have hv := aval_ok ht hp
    generalize hx : a.eval x = X at hv
    unfold runExtract at hu
    split at hu
    · cases hv with
      | tuple xs ys h1 h2 =>
      obtain ⟨U, hU, r⟩ := (VRs.of_array h1 h2).get (i := i) (x := u) (by simpa using hu)
      refine Comes1.quiet hi r ?_
      have hU' : ys[i]? = some U := by simpa using hU
      simp [execOp, hx, Instr.extract, hU']
    · cases hu
  case call c =>
    obtain ⟨callee, args, tys⟩ := c
    cases callee with
    | builtin b => exact res_builtin hr hi ht h
    | invoke x n => simp only [res] at hr; cases hr
    | value x =>
      cases x with
      | func f =>
        simp only [res] at hr
        split at hr
        · cases hr; simp [AOp.run] at h
        · cases hr
      | _ => simp only [res] at hr; cases hr; simp [AOp.run] at h
  all_goals (first | cases hr | (simp only [res] at hr; cases hr))

end Go.Fx
