/- Duty: what the functions on a queue answer. -/
import Derived.Test.YtbihanbnnhipjaaDutyA
namespace Go.Fx.Try
open Go Go.Fx
set_option linter.unusedSimpArgs false
set_option linter.unusedVariables false

abbrev encI : Enc Int := encInt .i64
theorem isize : encI.size = 1 := rfl
theorem icells (x : Int) : encI.cells x = [.int .i64 x] := rfl

/-- Where a number stands: -1: nowhere. -/
def at? (id : Int) : List Int → Int
  | [] => -1
  | a :: l => if a = id then 0 else let k := at? id l; if k < 0 then -1 else k + 1

/-- From a place on: what both searches have to find. -/
def atFrom (id : Int) (i : Nat) : List Int → Int
  | [] => -1
  | a :: l => if a = id then i else atFrom id (i + 1) l

theorem atFrom_spec (id : Int) : ∀ (l : List Int) (i : Nat), (atFrom id i l = -1 ∧ id ∉ l) ∨ ∃ j, j < l.length ∧ atFrom id i l = ((i + j : Nat) : Int) ∧ l[j]? = some id ∧ l.eraseIdx j = l.erase id
  | [], i => .inl ⟨rfl, by simp⟩
  | a :: l, i => by
    by_cases h : a = id
    · subst h
      exact .inr ⟨0, by simp, by simp [atFrom], rfl, by simp⟩
    · have hb : (a == id) = false := by simpa using h
      rcases atFrom_spec id l (i + 1) with ⟨h1, h2⟩ | ⟨j, h1, h2, h3, h4⟩
      · exact .inl ⟨by simp [atFrom, h, h1], by simp [h2, Ne.symm h]⟩
      · exact .inr ⟨j + 1, by simpa using h1, by simp only [atFrom, if_neg h, h2]; congr 1; omega, by simpa using h3, by rw [List.eraseIdx_cons_succ, h4, List.erase_cons_tail (by simpa using h)]⟩

structure IxR (v : Value) (n : Nat) (id : Int) (i : Nat) (ts : List Value) : Prop where
  len : ts.length = 19
  t0 : ts[0]? = some v
  t1 : ts[1]? = some (.int .i64 id)
  t7 : ts[7]? = some (.int .i64 n)
  t8 : ts[8]? = some (.int .i64 i)

theorem ix_loop {m : Mem} {v : Value} {l : List Int} (id : Int) (hv : TSl encI m v l) (hn : l.length ≤ 2 ^ 60) : ∀ (d i : Nat) (ts : List Value), i + d = l.length → IxR v l.length id i ts →
    ∃ ts', Exec S tab (.loop fn44_l0) ts m = some (if id ∈ l.drop i then .ret else .exit 0, ts', m) ∧ ts'.length = 19 ∧ (id ∈ l.drop i → ts'[4]? = some (.int .i64 (atFrom id i (l.drop i)))) := by
  intro d
  induction d with
  | zero =>
    intro i ts hi R
    obtain rfl : i = l.length := by omega
    have hlt : decide ((l.length : Int) < (l.length : Int)) = false := by simp
    rw [List.drop_length, if_neg (by simp)]
    obtain ⟨E, hE⟩ : ∃ E, Exec S tab (.loop fn44_l0) ts m = E := ⟨_, rfl⟩
    have hE2 := hE
    rw [X_loop] at hE2
    simp -implicitDefEqProofs only [fn44_l0, X_seq, X_region, X_cond, X_block, Exec_ret, Exec_skip, Exec_exit, X_cons, X_nil, opsK_some, guardK_true, guardK_false, wanted_none, wanted_some, stepOp, AOp.run, aval, avals, avalO, aparts, plain, putT, runBox, runBuildSlice, List.length_cons, List.length_nil, List.cons_append, List.nil_append, List.replicate_succ, List.replicate_zero, List.length_replicate, Nat.reduceAdd, Nat.reduceSub, Nat.reduceMul, Nat.reduceLT, Nat.reduceLeDiff, Nat.reduceEqDiff, if_true, if_false, reduceIte, Bool.false_eq_true, Bool.true_eq_false, Option.bind_some, Option.map_some, Option.getD_some, List.set_cons_succ, List.set_cons_zero, List.getElem?_cons_succ, List.getElem?_cons_zero, List.length_set, List.getElem?_toArray, runEqNil, nilKind, bothNil, thenC_normal, thenC_ret, thenC_exit, condK_true, condK_false, mapN_some, mapB_normal, mapB_ret, mapB_exit, leave_ret, leave_normal, resVs, resV, oneOf, Option.isNone_none, Option.isNone_some, runNilck, runFieldAddr, asPtr, runUn, asB, capsOf, Bool.not_true, Bool.not_false, beq_self_eq_true, b_tf, b_ft, cells_agg, cells_int, cells_bool, cells_str, cells_ptr, cells_slice, cells_map, Nat.zero_add, Nat.add_zero, and_self, and_true, true_and, List.getElem?_set, R.len, R.t7, R.t8, arith, iop, hlt] at hE2
    exact ⟨_, hE.trans hE2.symm, by simp -implicitDefEqProofs only [List.length_set, R.len], fun h => by simp at h⟩
  | succ d ih =>
    intro i ts hi R
    have hin : i < l.length := by omega
    have hlt : decide ((i : Int) < (l.length : Int)) = true := by simp; omega
    obtain ⟨b, off, hq1, hq2⟩ := hv.at .i64 (List.getElem?_eq_getElem hin)
    rw [isize] at hq1
    have hld := (hq2 m hv).2 0 (.int .i64 l[i]) rfl
    rw [Nat.add_zero] at hld
    have hwr : IntKind.i64.wrap ((i : Int) + 1) = ((i + 1 : Nat) : Int) := by rw [wrap_in (by omega) (by omega)]; rfl
    have hdl : l.drop i = l[i] :: l.drop (i + 1) := List.drop_eq_getElem_cons hin
    rw [hdl]
    by_cases hc : l[i] = id
    · rw [if_pos (by rw [hc]; simp)]
      have hb : (id == l[i]) = true := by simp [hc]
      have ha : atFrom id i (l[i] :: l.drop (i + 1)) = i := by simp [atFrom, hc]
      obtain ⟨E, hE⟩ : ∃ E, Exec S tab (.loop fn44_l0) ts m = E := ⟨_, rfl⟩
      have hE2 := hE
      rw [X_loop] at hE2
      simp -implicitDefEqProofs only [fn44_l0, X_seq, X_region, X_cond, X_block, Exec_ret, Exec_skip, Exec_exit, X_cons, X_nil, opsK_some, guardK_true, guardK_false, wanted_none, wanted_some, stepOp, AOp.run, aval, avals, avalO, aparts, plain, putT, runBox, runBuildSlice, List.length_cons, List.length_nil, List.cons_append, List.nil_append, List.replicate_succ, List.replicate_zero, List.length_replicate, Nat.reduceAdd, Nat.reduceSub, Nat.reduceMul, Nat.reduceLT, Nat.reduceLeDiff, Nat.reduceEqDiff, if_true, if_false, reduceIte, Bool.false_eq_true, Bool.true_eq_false, Option.bind_some, Option.map_some, Option.getD_some, List.set_cons_succ, List.set_cons_zero, List.getElem?_cons_succ, List.getElem?_cons_zero, List.length_set, List.getElem?_toArray, runEqNil, nilKind, bothNil, thenC_normal, thenC_ret, thenC_exit, condK_true, condK_false, mapN_some, mapB_normal, mapB_ret, mapB_exit, leave_ret, leave_normal, resVs, resV, oneOf, Option.isNone_none, Option.isNone_some, runNilck, runFieldAddr, asPtr, runUn, asB, capsOf, Bool.not_true, Bool.not_false, beq_self_eq_true, b_tf, b_ft, cells_agg, cells_int, cells_bool, cells_str, cells_ptr, cells_slice, cells_map, Nat.zero_add, Nat.add_zero, and_self, and_true, true_and, List.getElem?_set, R.len, R.t0, R.t1, R.t7, R.t8, arith, iop, hlt, hq1, hld, hb] at hE2
      exact ⟨_, hE.trans hE2.symm, by simp -implicitDefEqProofs only [List.length_set, R.len], fun _ => by rw [ha]; simp -implicitDefEqProofs only [X_seq, X_region, X_cond, X_block, Exec_ret, Exec_skip, Exec_exit, X_cons, X_nil, opsK_some, guardK_true, guardK_false, wanted_none, wanted_some, stepOp, AOp.run, aval, avals, avalO, aparts, plain, putT, runBox, runBuildSlice, List.length_cons, List.length_nil, List.cons_append, List.nil_append, List.replicate_succ, List.replicate_zero, List.length_replicate, Nat.reduceAdd, Nat.reduceSub, Nat.reduceMul, Nat.reduceLT, Nat.reduceLeDiff, Nat.reduceEqDiff, if_true, if_false, reduceIte, Bool.false_eq_true, Bool.true_eq_false, Option.bind_some, Option.map_some, Option.getD_some, List.set_cons_succ, List.set_cons_zero, List.getElem?_cons_succ, List.getElem?_cons_zero, List.length_set, List.getElem?_toArray, runEqNil, nilKind, bothNil, thenC_normal, thenC_ret, thenC_exit, condK_true, condK_false, mapN_some, mapB_normal, mapB_ret, mapB_exit, leave_ret, leave_normal, resVs, resV, oneOf, Option.isNone_none, Option.isNone_some, runNilck, runFieldAddr, asPtr, runUn, asB, capsOf, Bool.not_true, Bool.not_false, beq_self_eq_true, b_tf, b_ft, cells_agg, cells_int, cells_bool, cells_str, cells_ptr, cells_slice, cells_map, Nat.zero_add, Nat.add_zero, and_self, and_true, true_and, List.getElem?_set, R.len]⟩
    · have hb : (id == l[i]) = false := by simpa using fun h => hc h.symm
      have ha : atFrom id i (l[i] :: l.drop (i + 1)) = atFrom id (i + 1) (l.drop (i + 1)) := by simp [atFrom, hc]
      have hm : (id ∈ l[i] :: l.drop (i + 1)) ↔ id ∈ l.drop (i + 1) := by
        rw [List.mem_cons]; exact ⟨fun h => h.elim (fun h => absurd h.symm hc) (fun h => h), .inr⟩
      have hround : ∃ ts', Exec S tab fn44_l0 ts m = some (.normal, ts', m) ∧ IxR v l.length id (i + 1) ts' := by
        obtain ⟨E, hE⟩ : ∃ E, Exec S tab fn44_l0 ts m = E := ⟨_, rfl⟩
        have hE2 := hE
        simp -implicitDefEqProofs only [fn44_l0, X_seq, X_region, X_cond, X_block, Exec_ret, Exec_skip, Exec_exit, X_cons, X_nil, opsK_some, guardK_true, guardK_false, wanted_none, wanted_some, stepOp, AOp.run, aval, avals, avalO, aparts, plain, putT, runBox, runBuildSlice, List.length_cons, List.length_nil, List.cons_append, List.nil_append, List.replicate_succ, List.replicate_zero, List.length_replicate, Nat.reduceAdd, Nat.reduceSub, Nat.reduceMul, Nat.reduceLT, Nat.reduceLeDiff, Nat.reduceEqDiff, if_true, if_false, reduceIte, Bool.false_eq_true, Bool.true_eq_false, Option.bind_some, Option.map_some, Option.getD_some, List.set_cons_succ, List.set_cons_zero, List.getElem?_cons_succ, List.getElem?_cons_zero, List.length_set, List.getElem?_toArray, runEqNil, nilKind, bothNil, thenC_normal, thenC_ret, thenC_exit, condK_true, condK_false, mapN_some, mapB_normal, mapB_ret, mapB_exit, leave_ret, leave_normal, resVs, resV, oneOf, Option.isNone_none, Option.isNone_some, runNilck, runFieldAddr, asPtr, runUn, asB, capsOf, Bool.not_true, Bool.not_false, beq_self_eq_true, b_tf, b_ft, cells_agg, cells_int, cells_bool, cells_str, cells_ptr, cells_slice, cells_map, Nat.zero_add, Nat.add_zero, and_self, and_true, true_and, List.getElem?_set, R.len, R.t0, R.t1, R.t7, R.t8, arith, iop, hlt, hq1, hld, hb, hwr] at hE2
        refine ⟨_, hE.trans hE2.symm, { len := ?_, t0 := ?_, t1 := ?_, t7 := ?_, t8 := ?_ }⟩ <;>
          simp -implicitDefEqProofs only [X_seq, X_region, X_cond, X_block, Exec_ret, Exec_skip, Exec_exit, X_cons, X_nil, opsK_some, guardK_true, guardK_false, wanted_none, wanted_some, stepOp, AOp.run, aval, avals, avalO, aparts, plain, putT, runBox, runBuildSlice, List.length_cons, List.length_nil, List.cons_append, List.nil_append, List.replicate_succ, List.replicate_zero, List.length_replicate, Nat.reduceAdd, Nat.reduceSub, Nat.reduceMul, Nat.reduceLT, Nat.reduceLeDiff, Nat.reduceEqDiff, if_true, if_false, reduceIte, Bool.false_eq_true, Bool.true_eq_false, Option.bind_some, Option.map_some, Option.getD_some, List.set_cons_succ, List.set_cons_zero, List.getElem?_cons_succ, List.getElem?_cons_zero, List.length_set, List.getElem?_toArray, runEqNil, nilKind, bothNil, thenC_normal, thenC_ret, thenC_exit, condK_true, condK_false, mapN_some, mapB_normal, mapB_ret, mapB_exit, leave_ret, leave_normal, resVs, resV, oneOf, Option.isNone_none, Option.isNone_some, runNilck, runFieldAddr, asPtr, runUn, asB, capsOf, Bool.not_true, Bool.not_false, beq_self_eq_true, b_tf, b_ft, cells_agg, cells_int, cells_bool, cells_str, cells_ptr, cells_slice, cells_map, Nat.zero_add, Nat.add_zero, and_self, and_true, true_and, List.getElem?_set, R.len, R.t0, R.t1, R.t7, R.t8]
      obtain ⟨ts', hr1, hr2⟩ := hround
      obtain ⟨ts'', g1, g2, g3⟩ := ih (i + 1) ts' (by omega) hr2
      refine ⟨ts'', ?_, g2, fun h => by rw [ha]; exact g3 (hm.1 h)⟩
      rw [X_loop, hr1, thenC_normal, g1]
      by_cases h : id ∈ l.drop (i + 1)
      · rw [if_pos h, if_pos (hm.2 h)]
      · rw [if_neg h, if_neg (fun h' => h (hm.1 h'))]

theorem index_ok {m : Mem} {v : Value} {l : List Int} (id : Int) (hv : TSl encI m v l) (hn : l.length ≤ 2 ^ 60) : Call S tab 44 [v, .int .i64 id] m = some (.int .i64 (atFrom id 0 l), m) := by
  obtain ⟨ts, h1, h2, h3⟩ := ix_loop id hv hn l.length 0 [v, .int .i64 id, undef, undef, .int .i64 0, undef, v, .int .i64 l.length, .int .i64 0, undef, undef, undef, undef, undef, undef, undef, undef, undef, undef] (by omega) ⟨rfl, rfl, rfl, rfl, rfl⟩
  rw [List.drop_zero] at h1 h3
  rw [eq44]
  by_cases h : id ∈ l
  · rw [if_pos h] at h1
    simp -implicitDefEqProofs only [fn44, X_seq, X_region, X_cond, X_block, Exec_ret, Exec_skip, Exec_exit, X_cons, X_nil, opsK_some, guardK_true, guardK_false, wanted_none, wanted_some, stepOp, AOp.run, aval, avals, avalO, aparts, plain, putT, runBox, runBuildSlice, List.length_cons, List.length_nil, List.cons_append, List.nil_append, List.replicate_succ, List.replicate_zero, List.length_replicate, Nat.reduceAdd, Nat.reduceSub, Nat.reduceMul, Nat.reduceLT, Nat.reduceLeDiff, Nat.reduceEqDiff, if_true, if_false, reduceIte, Bool.false_eq_true, Bool.true_eq_false, Option.bind_some, Option.map_some, Option.getD_some, List.set_cons_succ, List.set_cons_zero, List.getElem?_cons_succ, List.getElem?_cons_zero, List.length_set, List.getElem?_toArray, runEqNil, nilKind, bothNil, thenC_normal, thenC_ret, thenC_exit, condK_true, condK_false, mapN_some, mapB_normal, mapB_ret, mapB_exit, leave_ret, leave_normal, resVs, resV, oneOf, Option.isNone_none, Option.isNone_some, runNilck, runFieldAddr, asPtr, runUn, asB, capsOf, Bool.not_true, Bool.not_false, beq_self_eq_true, b_tf, b_ft, cells_agg, cells_int, cells_bool, cells_str, cells_ptr, cells_slice, cells_map, Nat.zero_add, Nat.add_zero, and_self, and_true, true_and, hv.len, h1, h2, h3 h, List.getElem?_set]
  · rw [if_neg h] at h1
    have ha : atFrom id 0 l = -1 := by
      rcases atFrom_spec id l 0 with ⟨h', _⟩ | ⟨j, _, _, h', _⟩
      · exact h'
      · exact absurd (List.mem_of_getElem? h') h
    rw [ha]
    simp -implicitDefEqProofs only [fn44, X_seq, X_region, X_cond, X_block, Exec_ret, Exec_skip, Exec_exit, X_cons, X_nil, opsK_some, guardK_true, guardK_false, wanted_none, wanted_some, stepOp, AOp.run, aval, avals, avalO, aparts, plain, putT, runBox, runBuildSlice, List.length_cons, List.length_nil, List.cons_append, List.nil_append, List.replicate_succ, List.replicate_zero, List.length_replicate, Nat.reduceAdd, Nat.reduceSub, Nat.reduceMul, Nat.reduceLT, Nat.reduceLeDiff, Nat.reduceEqDiff, if_true, if_false, reduceIte, Bool.false_eq_true, Bool.true_eq_false, Option.bind_some, Option.map_some, Option.getD_some, List.set_cons_succ, List.set_cons_zero, List.getElem?_cons_succ, List.getElem?_cons_zero, List.length_set, List.getElem?_toArray, runEqNil, nilKind, bothNil, thenC_normal, thenC_ret, thenC_exit, condK_true, condK_false, mapN_some, mapB_normal, mapB_ret, mapB_exit, leave_ret, leave_normal, resVs, resV, oneOf, Option.isNone_none, Option.isNone_some, runNilck, runFieldAddr, asPtr, runUn, asB, capsOf, Bool.not_true, Bool.not_false, beq_self_eq_true, b_tf, b_ft, cells_agg, cells_int, cells_bool, cells_str, cells_ptr, cells_slice, cells_map, Nat.zero_add, Nat.add_zero, and_self, and_true, true_and, hv.len, h1, h2, List.getElem?_set]

theorem contains_ok {m : Mem} {v : Value} {l : List Int} (id : Int) (hv : TSl encI m v l) (hn : l.length ≤ 2 ^ 60) : Call S tab 41 [v, .int .i64 id] m = some (.bool (decide (id ∈ l)), m) := by
  have hb : decide (atFrom id 0 l ≥ 0) = decide (id ∈ l) := by
    rcases atFrom_spec id l 0 with ⟨h1, h2⟩ | ⟨j, _, h1, h2, _⟩
    · rw [h1]; simp [h2]
    · rw [h1]; simp [List.mem_of_getElem? h2]
  rw [eq41]
  simp -implicitDefEqProofs only [fn41, X_seq, X_region, X_cond, X_block, Exec_ret, Exec_skip, Exec_exit, X_cons, X_nil, opsK_some, guardK_true, guardK_false, wanted_none, wanted_some, stepOp, AOp.run, aval, avals, avalO, aparts, plain, putT, runBox, runBuildSlice, List.length_cons, List.length_nil, List.cons_append, List.nil_append, List.replicate_succ, List.replicate_zero, List.length_replicate, Nat.reduceAdd, Nat.reduceSub, Nat.reduceMul, Nat.reduceLT, Nat.reduceLeDiff, Nat.reduceEqDiff, if_true, if_false, reduceIte, Bool.false_eq_true, Bool.true_eq_false, Option.bind_some, Option.map_some, Option.getD_some, List.set_cons_succ, List.set_cons_zero, List.getElem?_cons_succ, List.getElem?_cons_zero, List.length_set, List.getElem?_toArray, runEqNil, nilKind, bothNil, thenC_normal, thenC_ret, thenC_exit, condK_true, condK_false, mapN_some, mapB_normal, mapB_ret, mapB_exit, leave_ret, leave_normal, resVs, resV, oneOf, Option.isNone_none, Option.isNone_some, runNilck, runFieldAddr, asPtr, runUn, asB, capsOf, Bool.not_true, Bool.not_false, beq_self_eq_true, b_tf, b_ft, cells_agg, cells_int, cells_bool, cells_str, cells_ptr, cells_slice, cells_map, Nat.zero_add, Nat.add_zero, and_self, and_true, true_and, index_ok id hv hn, arith, iop, hb]

end Go.Fx.Try
