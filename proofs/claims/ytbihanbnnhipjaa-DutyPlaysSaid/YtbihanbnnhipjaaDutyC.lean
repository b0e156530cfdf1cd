/- Duty: a queue. -/
import Derived.Test.YtbihanbnnhipjaaDutyB
namespace Go.Fx.Try
open Go Go.Fx
set_option linter.unusedSimpArgs false
set_option linter.unusedVariables false

/-- A queue of these numbers. -/
def QAt (m : Mem) (q : Value) (B : List Nat) (l : List Int) : Prop :=
  ∃ bq v, q = .pointer (some ⟨bq, 0, none⟩) ∧ B = bq :: blkOf v ∧ bq < m.next ∧ bq ∉ blkOf v ∧ m.get bq = some ⟨.cells [v] 77, false, none⟩ ∧ TRm encI 3 m v l

theorem QAt.lt {m : Mem} {q : Value} {B : List Nat} {l : List Int} (h : QAt m q B l) : ∀ b ∈ B, b < m.next := by
  obtain ⟨bq, v, rfl, rfl, h1, h2, h3, h4⟩ := h
  intro b hb
  rcases List.mem_cons.1 hb with rfl | hb
  · exact h1
  · exact h4.lt b hb
theorem QAt.upd {fp : List Nat} {m m' : Mem} {q : Value} {B : List Nat} {l : List Int} (h : QAt m q B l) (hu : Upd fp m m') (hd : ∀ b ∈ B, b ∉ fp) : QAt m' q B l := by
  obtain ⟨bq, v, rfl, rfl, h1, h2, h3, h4⟩ := h
  exact ⟨bq, v, rfl, rfl, Nat.lt_of_lt_of_le h1 hu.next, h2, by rw [hu.same bq h1 (hd bq (by simp))]; exact h3, h4.upd hu (fun b hb => hd b (by simp [hb]))⟩

theorem qnew_ok (m : Mem) : ∃ q m', Call S tab 24 [] m = some (q, m') ∧ QAt m' q [m.next] [] ∧ Upd [] m m' := by
  refine ⟨.pointer (some ⟨m.next, 0, none⟩), m.add ⟨.cells [.slice none 0 0] 77, false, none⟩, ?_, ⟨m.next, .slice none 0 0, rfl, rfl, by simp, by simp [blkOf], Mem.get_add_self .., TRm.nil _⟩, Upd.add _ _ _⟩
  rw [eq24]
  simp -implicitDefEqProofs only [fn24, X_seq, X_region, X_cond, X_block, Exec_ret, Exec_skip, Exec_exit, X_cons, X_nil, opsK_some, guardK_true, guardK_false, wanted_none, wanted_some, stepOp, AOp.run, aval, avals, avalO, aparts, plain, putT, runBox, runBuildSlice, List.length_cons, List.length_nil, List.cons_append, List.nil_append, List.replicate_succ, List.replicate_zero, List.length_replicate, Nat.reduceAdd, Nat.reduceSub, Nat.reduceMul, Nat.reduceLT, Nat.reduceLeDiff, Nat.reduceEqDiff, if_true, if_false, reduceIte, Bool.false_eq_true, Bool.true_eq_false, Option.bind_some, Option.map_some, Option.getD_some, List.set_cons_succ, List.set_cons_zero, List.getElem?_cons_succ, List.getElem?_cons_zero, List.length_set, List.getElem?_toArray, runEqNil, nilKind, bothNil, thenC_normal, thenC_ret, thenC_exit, condK_true, condK_false, mapN_some, mapB_normal, mapB_ret, mapB_exit, leave_ret, leave_normal, resVs, resV, oneOf, Option.isNone_none, Option.isNone_some, runNilck, runFieldAddr, asPtr, runUn, asB, capsOf, Bool.not_true, Bool.not_false, beq_self_eq_true, b_tf, b_ft, cells_agg, cells_int, cells_bool, cells_str, cells_ptr, cells_slice, cells_map, Nat.zero_add, Nat.add_zero, and_self, and_true, true_and, afill]

theorem waits_ok {m : Mem} {q : Value} {B : List Nat} {l : List Int} (id : Int) (h : QAt m q B l) (hn : l.length ≤ 2 ^ 40) : Call S tab 34 [q, .int .i64 id] m = some (.int .i64 (atFrom id 0 l), m) := by
  obtain ⟨bq, v, rfl, rfl, h1, h2, h3, h4⟩ := h
  have hv := load_at (o := 0) h3 (v := v) rfl
  have hi := index_ok id h4.tsl (by omega)
  rw [eq34]
  simp -implicitDefEqProofs only [fn34, X_seq, X_region, X_cond, X_block, Exec_ret, Exec_skip, Exec_exit, X_cons, X_nil, opsK_some, guardK_true, guardK_false, wanted_none, wanted_some, stepOp, AOp.run, aval, avals, avalO, aparts, plain, putT, runBox, runBuildSlice, List.length_cons, List.length_nil, List.cons_append, List.nil_append, List.replicate_succ, List.replicate_zero, List.length_replicate, Nat.reduceAdd, Nat.reduceSub, Nat.reduceMul, Nat.reduceLT, Nat.reduceLeDiff, Nat.reduceEqDiff, if_true, if_false, reduceIte, Bool.false_eq_true, Bool.true_eq_false, Option.bind_some, Option.map_some, Option.getD_some, List.set_cons_succ, List.set_cons_zero, List.getElem?_cons_succ, List.getElem?_cons_zero, List.length_set, List.getElem?_toArray, runEqNil, nilKind, bothNil, thenC_normal, thenC_ret, thenC_exit, condK_true, condK_false, mapN_some, mapB_normal, mapB_ret, mapB_exit, leave_ret, leave_normal, resVs, resV, oneOf, Option.isNone_none, Option.isNone_some, runNilck, runFieldAddr, asPtr, runUn, asB, capsOf, Bool.not_true, Bool.not_false, beq_self_eq_true, b_tf, b_ft, cells_agg, cells_int, cells_bool, cells_str, cells_ptr, cells_slice, cells_map, Nat.zero_add, Nat.add_zero, and_self, and_true, true_and, hv, hi]

theorem iclone_ok {m : Mem} {v : Value} {l : List Int} (h : TSl encI m v l) (hb : ∀ b ∈ blkOf v, b < m.next) (hn : l.length ≤ 2 ^ 40) :
    ∃ v' m', Call S tab 43 [v] m = some (v', m') ∧ TSl encI m' v' l ∧ Upd [] m m' ∧ ∀ b ∈ blkOf v', m.next ≤ b ∧ b < m'.next := by
  rcases h with ⟨h1, ⟨rfl, h0⟩ | ⟨b, off, cap, rfl, hc, h3⟩⟩
  · have : l = [] := by simpa using h0
    subst this
    refine ⟨.slice none 0 0, m, ?_, TSl.nil _, Upd.refl _ _, fun b hb => by simp [blkOf] at hb⟩
    rw [eq43]
    simp -implicitDefEqProofs only [fn43, X_seq, X_region, X_cond, X_block, Exec_ret, Exec_skip, Exec_exit, X_cons, X_nil, opsK_some, guardK_true, guardK_false, wanted_none, wanted_some, stepOp, AOp.run, aval, avals, avalO, aparts, plain, putT, runBox, runBuildSlice, List.length_cons, List.length_nil, List.cons_append, List.nil_append, List.replicate_succ, List.replicate_zero, List.length_replicate, Nat.reduceAdd, Nat.reduceSub, Nat.reduceMul, Nat.reduceLT, Nat.reduceLeDiff, Nat.reduceEqDiff, if_true, if_false, reduceIte, Bool.false_eq_true, Bool.true_eq_false, Option.bind_some, Option.map_some, Option.getD_some, List.set_cons_succ, List.set_cons_zero, List.getElem?_cons_succ, List.getElem?_cons_zero, List.length_set, List.getElem?_toArray, runEqNil, nilKind, bothNil, thenC_normal, thenC_ret, thenC_exit, condK_true, condK_false, mapN_some, mapB_normal, mapB_ret, mapB_exit, leave_ret, leave_normal, resVs, resV, oneOf, Option.isNone_none, Option.isNone_some, runNilck, runFieldAddr, asPtr, runUn, asB, capsOf, Bool.not_true, Bool.not_false, beq_self_eq_true, b_tf, b_ft, cells_agg, cells_int, cells_bool, cells_str, cells_ptr, cells_slice, cells_map, Nat.zero_add, Nat.add_zero, and_self, and_true, true_and]
  · have hu : Upd [] m (m.add ⟨.cells [] 3, false, none⟩) := Upd.add _ _ _
    have hsl : TSl encI (m.add ⟨.cells [] 3, false, none⟩) (.slice (some ⟨b, off, none⟩) l.length cap) l :=
      TSl.upd (m := m) ⟨h1, .inr ⟨b, off, cap, rfl, hc, h3⟩⟩ hu (fun c hc => ⟨hb c hc, by simp⟩)
    have hgr : TGr encI 3 (m.add ⟨.cells [] 3, false, none⟩) (.slice (some ⟨m.next, 0, none⟩) 0 0) [] := .inr ⟨m.next, 3, rfl, rfl, by simp, Mem.get_add_self ..⟩
    have hsrc := hsl.src
    rw [isize] at hsrc
    by_cases hl : l = []
    · subst hl
      refine ⟨.slice (some ⟨m.next, 0, none⟩) 0 0, m.add ⟨.cells [] 3, false, none⟩, ?_, hgr.tsl, hu, fun c hc => by simp [blkOf] at hc; subst hc; exact ⟨Nat.le_refl _, by rw [Mem.next_add]; omega⟩⟩
      have ha : runAppend 3 1 8 (.slice (some ⟨m.next, 0, none⟩) 0 0) 0 [] (m.add ⟨.cells [] 3, false, none⟩) = some (.slice (some ⟨m.next, 0, none⟩) 0 0, m.add ⟨.cells [] 3, false, none⟩) := by simp [runAppend]
      have hsrc' : ∀ mm, runSrc 1 (.slice (some ⟨b, off, none⟩) 0 cap) mm = some (0, []) := fun mm => by simp [runSrc]
      rw [eq43]
      simp -implicitDefEqProofs only [fn43, X_seq, X_region, X_cond, X_block, Exec_ret, Exec_skip, Exec_exit, X_cons, X_nil, opsK_some, guardK_true, guardK_false, wanted_none, wanted_some, stepOp, AOp.run, aval, avals, avalO, aparts, plain, putT, runBox, runBuildSlice, List.length_cons, List.length_nil, List.cons_append, List.nil_append, List.replicate_succ, List.replicate_zero, List.length_replicate, Nat.reduceAdd, Nat.reduceSub, Nat.reduceMul, Nat.reduceLT, Nat.reduceLeDiff, Nat.reduceEqDiff, if_true, if_false, reduceIte, Bool.false_eq_true, Bool.true_eq_false, Option.bind_some, Option.map_some, Option.getD_some, List.set_cons_succ, List.set_cons_zero, List.getElem?_cons_succ, List.getElem?_cons_zero, List.length_set, List.getElem?_toArray, runEqNil, nilKind, bothNil, thenC_normal, thenC_ret, thenC_exit, condK_true, condK_false, mapN_some, mapB_normal, mapB_ret, mapB_exit, leave_ret, leave_normal, resVs, resV, oneOf, Option.isNone_none, Option.isNone_some, runNilck, runFieldAddr, asPtr, runUn, asB, capsOf, Bool.not_true, Bool.not_false, beq_self_eq_true, b_tf, b_ft, cells_agg, cells_int, cells_bool, cells_str, cells_ptr, cells_slice, cells_map, Nat.zero_add, Nat.add_zero, and_self, and_true, true_and, afill, hsrc', ha]
    · obtain ⟨v', m', ha1, ha2, ha3, ha4, ha5⟩ := hgr.append (eb := 8) hl (by simp; omega) (by simp; omega)
      rw [isize] at ha1
      rw [Mem.next_add] at ha4 ha5
      refine ⟨v', m', ?_, by simpa using ha2.tsl, (hu.trans_new ha3 (fun c hc => by simp [blkOf] at hc; exact .inr (by omega))), fun c hc => by rw [ha5] at hc; simp at hc; omega⟩
      rw [eq43]
      simp -implicitDefEqProofs only [fn43, X_seq, X_region, X_cond, X_block, Exec_ret, Exec_skip, Exec_exit, X_cons, X_nil, opsK_some, guardK_true, guardK_false, wanted_none, wanted_some, stepOp, AOp.run, aval, avals, avalO, aparts, plain, putT, runBox, runBuildSlice, List.length_cons, List.length_nil, List.cons_append, List.nil_append, List.replicate_succ, List.replicate_zero, List.length_replicate, Nat.reduceAdd, Nat.reduceSub, Nat.reduceMul, Nat.reduceLT, Nat.reduceLeDiff, Nat.reduceEqDiff, if_true, if_false, reduceIte, Bool.false_eq_true, Bool.true_eq_false, Option.bind_some, Option.map_some, Option.getD_some, List.set_cons_succ, List.set_cons_zero, List.getElem?_cons_succ, List.getElem?_cons_zero, List.length_set, List.getElem?_toArray, runEqNil, nilKind, bothNil, thenC_normal, thenC_ret, thenC_exit, condK_true, condK_false, mapN_some, mapB_normal, mapB_ret, mapB_exit, leave_ret, leave_normal, resVs, resV, oneOf, Option.isNone_none, Option.isNone_some, runNilck, runFieldAddr, asPtr, runUn, asB, capsOf, Bool.not_true, Bool.not_false, beq_self_eq_true, b_tf, b_ft, cells_agg, cells_int, cells_bool, cells_str, cells_ptr, cells_slice, cells_map, Nat.zero_add, Nat.add_zero, and_self, and_true, true_and, afill, hsrc, ha1]

theorem qall_ok {m : Mem} {q : Value} {B : List Nat} {l : List Int} (h : QAt m q B l) (hn : l.length ≤ 2 ^ 40) :
    ∃ v' m', Call S tab 33 [q] m = some (v', m') ∧ TSl encI m' v' l ∧ Upd [] m m' ∧ ∀ b ∈ blkOf v', m.next ≤ b ∧ b < m'.next := by
  obtain ⟨bq, v, rfl, rfl, h1, h2, h3, h4⟩ := h
  have hv := load_at (o := 0) h3 (v := v) rfl
  obtain ⟨v', m', g1, g2, g3, g4⟩ := iclone_ok h4.tsl h4.lt hn
  refine ⟨v', m', ?_, g2, g3, g4⟩
  rw [eq33]
  simp -implicitDefEqProofs only [fn33, X_seq, X_region, X_cond, X_block, Exec_ret, Exec_skip, Exec_exit, X_cons, X_nil, opsK_some, guardK_true, guardK_false, wanted_none, wanted_some, stepOp, AOp.run, aval, avals, avalO, aparts, plain, putT, runBox, runBuildSlice, List.length_cons, List.length_nil, List.cons_append, List.nil_append, List.replicate_succ, List.replicate_zero, List.length_replicate, Nat.reduceAdd, Nat.reduceSub, Nat.reduceMul, Nat.reduceLT, Nat.reduceLeDiff, Nat.reduceEqDiff, if_true, if_false, reduceIte, Bool.false_eq_true, Bool.true_eq_false, Option.bind_some, Option.map_some, Option.getD_some, List.set_cons_succ, List.set_cons_zero, List.getElem?_cons_succ, List.getElem?_cons_zero, List.length_set, List.getElem?_toArray, runEqNil, nilKind, bothNil, thenC_normal, thenC_ret, thenC_exit, condK_true, condK_false, mapN_some, mapB_normal, mapB_ret, mapB_exit, leave_ret, leave_normal, resVs, resV, oneOf, Option.isNone_none, Option.isNone_some, runNilck, runFieldAddr, asPtr, runUn, asB, capsOf, Bool.not_true, Bool.not_false, beq_self_eq_true, b_tf, b_ft, cells_agg, cells_int, cells_bool, cells_str, cells_ptr, cells_slice, cells_map, Nat.zero_add, Nat.add_zero, and_self, and_true, true_and, hv, g1]

def joined (l : List Int) (id : Int) : List Int := if id ∈ l then l else l ++ [id]

theorem join_ok {m : Mem} {q : Value} {B : List Nat} {l : List Int} (id : Int) (h : QAt m q B l) (hn : l.length ≤ 2 ^ 40) :
    ∃ m' B', Call S tab 27 [q, .int .i64 id] m = some (.bool (!decide (id ∈ l)), m') ∧ QAt m' q B' (joined l id) ∧ Upd B m m' ∧ ∀ b ∈ B', b ∈ B ∨ m.next ≤ b := by
  have h' := h
  obtain ⟨bq, v, rfl, rfl, h1, h2, h3, h4⟩ := h'
  have hv := load_at (o := 0) h3 (v := v) rfl
  have hi := contains_ok id h4.tsl (by omega)
  by_cases hc : id ∈ l
  · rw [show decide (id ∈ l) = true by simpa using hc] at hi
    refine ⟨m, bq :: blkOf v, ?_, by rw [joined, if_pos hc]; exact h, Upd.refl _ _, fun b hb => .inl hb⟩
    rw [show decide (id ∈ l) = true by simpa using hc]
    rw [eq27]
    simp -implicitDefEqProofs only [fn27, X_seq, X_region, X_cond, X_block, Exec_ret, Exec_skip, Exec_exit, X_cons, X_nil, opsK_some, guardK_true, guardK_false, wanted_none, wanted_some, stepOp, AOp.run, aval, avals, avalO, aparts, plain, putT, runBox, runBuildSlice, List.length_cons, List.length_nil, List.cons_append, List.nil_append, List.replicate_succ, List.replicate_zero, List.length_replicate, Nat.reduceAdd, Nat.reduceSub, Nat.reduceMul, Nat.reduceLT, Nat.reduceLeDiff, Nat.reduceEqDiff, if_true, if_false, reduceIte, Bool.false_eq_true, Bool.true_eq_false, Option.bind_some, Option.map_some, Option.getD_some, List.set_cons_succ, List.set_cons_zero, List.getElem?_cons_succ, List.getElem?_cons_zero, List.length_set, List.getElem?_toArray, runEqNil, nilKind, bothNil, thenC_normal, thenC_ret, thenC_exit, condK_true, condK_false, mapN_some, mapB_normal, mapB_ret, mapB_exit, leave_ret, leave_normal, resVs, resV, oneOf, Option.isNone_none, Option.isNone_some, runNilck, runFieldAddr, asPtr, runUn, asB, capsOf, Bool.not_true, Bool.not_false, beq_self_eq_true, b_tf, b_ft, cells_agg, cells_int, cells_bool, cells_str, cells_ptr, cells_slice, cells_map, Nat.zero_add, Nat.add_zero, and_self, and_true, true_and, hv, hi]
  · rw [show decide (id ∈ l) = false by simpa using hc] at hi
    have hu1 : Upd [] m (m.add ⟨.cells [.int .i64 id] 3, false, none⟩) := Upd.add _ _ _
    have q1 := h.upd hu1 (fun b _ hb => by simp at hb)
    have hg1 : (m.add ⟨.cells [.int .i64 id] 3, false, none⟩).get m.next = some ⟨.cells [.int .i64 id] 3, false, none⟩ := Mem.get_add_self ..
    have hn1 : (m.add ⟨.cells [.int .i64 id] 3, false, none⟩).next = m.next + 1 := rfl
    have h31 : (m.add ⟨.cells [.int .i64 id] 3, false, none⟩).get bq = some ⟨.cells [v] 77, false, none⟩ := by rw [hu1.same bq h1 (by simp)]; exact h3
    have h41 := h4.upd hu1 (fun b _ hb => by simp at hb)
    generalize hm1 : m.add ⟨.cells [.int .i64 id] 3, false, none⟩ = m1 at *
    obtain ⟨v', m2, ha1, ha2, ha3, ha4⟩ := h41.append (k := [id]) (eb := 8) (by decide) (by simp) (by simp; omega) (by simp; omega)
    simp only [List.length_cons, List.length_nil, Nat.zero_add, encI.flat_one, isize, icells] at ha1
    have hsrc : runSrc 1 (.slice (some ⟨m.next, 0, none⟩) 1 1) m1 = some (1, [.int .i64 id]) := by simp [runSrc, cellsAt_of_get hg1]
    have hfill : afill [.int .i64 0] [(0, 1, .int .i64 id)] = some [.int .i64 id] := rfl
    have hv1 := load_at (o := 0) h31 (v := v) rfl
    have h32 : m2.get bq = some ⟨.cells [v] 77, false, none⟩ := by rw [ha3.same bq (by omega) h2]; exact h31
    obtain ⟨hc1, hc2⟩ := ha2.one
    have hst := store_at (o := 0) (v := v') h32 (by simp) hc1 hc2
    have hset : [v].set 0 v' = [v'] := rfl
    rw [hset] at hst
    have hu3 : Upd [bq] m2 (m2.put bq ⟨.cells [v'] 77, false, none⟩) := Upd.put _ _ (by simp)
    have hnotin : bq ∉ blkOf v' := fun hb => (ha4 bq hb).elim h2 (fun h => by omega)
    have hn2 := ha3.next
    refine ⟨m2.put bq ⟨.cells [v'] 77, false, none⟩, bq :: blkOf v', ?_, ?_, ?_, ?_⟩
    · rw [show decide (id ∈ l) = false by simpa using hc]
      rw [eq27]
      simp -implicitDefEqProofs only [fn27, X_seq, X_region, X_cond, X_block, Exec_ret, Exec_skip, Exec_exit, X_cons, X_nil, opsK_some, guardK_true, guardK_false, wanted_none, wanted_some, stepOp, AOp.run, aval, avals, avalO, aparts, plain, putT, runBox, runBuildSlice, List.length_cons, List.length_nil, List.cons_append, List.nil_append, List.replicate_succ, List.replicate_zero, List.length_replicate, Nat.reduceAdd, Nat.reduceSub, Nat.reduceMul, Nat.reduceLT, Nat.reduceLeDiff, Nat.reduceEqDiff, if_true, if_false, reduceIte, Bool.false_eq_true, Bool.true_eq_false, Option.bind_some, Option.map_some, Option.getD_some, List.set_cons_succ, List.set_cons_zero, List.getElem?_cons_succ, List.getElem?_cons_zero, List.length_set, List.getElem?_toArray, runEqNil, nilKind, bothNil, thenC_normal, thenC_ret, thenC_exit, condK_true, condK_false, mapN_some, mapB_normal, mapB_ret, mapB_exit, leave_ret, leave_normal, resVs, resV, oneOf, Option.isNone_none, Option.isNone_some, runNilck, runFieldAddr, asPtr, runUn, asB, capsOf, Bool.not_true, Bool.not_false, beq_self_eq_true, b_tf, b_ft, cells_agg, cells_int, cells_bool, cells_str, cells_ptr, cells_slice, cells_map, Nat.zero_add, Nat.add_zero, and_self, and_true, true_and, hv, hi, hfill, hm1, hsrc, hv1, ha1, hst]
    · rw [joined, if_neg hc]
      exact ⟨bq, v', rfl, rfl, by show bq < m2.next; omega, hnotin, Mem.get_put_self .., ha2.upd hu3 (fun b hb hb' => by simp at hb'; subst hb'; exact hnotin hb)⟩
    · exact (hu1.mono (fun b hb => by simp at hb)).trans ((ha3.mono (fun b hb _ => by simp [hb])).trans (hu3.mono (fun b hb _ => by simp at hb; simp [hb])))
    · intro b hb
      rcases List.mem_cons.1 hb with rfl | hb
      · exact .inl (by simp)
      · rcases ha4 b hb with h | h
        · exact .inl (by simp [h])
        · exact .inr (by omega)

end Go.Fx.Try
