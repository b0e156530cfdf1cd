/- Inbox: what the functions answer where there is no box; the cut of a list to its beginning. -/
import Derived.Test.YtbihanbnnhipjaaTab
import Derived.Test.YtbihanbnnhipjaaFxLib
namespace Go.Fx.Try
open Go Go.Fx
set_option linter.unusedSimpArgs false
set_option linter.unusedVariables false

theorem take_nil (v : Value) (m : Mem) : Call S tab 16 [.pointer none, v] m = some (.int .i64 5, (runBox 32 v m).2) := by
  rw [eq16]
  simp -implicitDefEqProofs only [fn16, X_seq, X_region, X_cond, X_block, Exec_ret, Exec_skip, Exec_exit, X_cons, X_nil, opsK_some, guardK_true, guardK_false, wanted_none, wanted_some, stepOp, AOp.run, aval, avals, avalO, aparts, plain, putT, runBox, runBuildSlice, List.length_cons, List.length_nil, List.cons_append, List.nil_append, List.replicate_succ, List.replicate_zero, List.length_replicate, Nat.reduceAdd, Nat.reduceSub, Nat.reduceMul, Nat.reduceLT, Nat.reduceLeDiff, Nat.reduceEqDiff, if_true, if_false, reduceIte, Bool.false_eq_true, Bool.true_eq_false, Option.bind_some, Option.map_some, Option.getD_some, List.set_cons_succ, List.set_cons_zero, List.getElem?_cons_succ, List.getElem?_cons_zero, List.length_set, runEqNil, nilKind, bothNil, thenC_normal, thenC_ret, thenC_exit, condK_true, condK_false, mapN_some, mapB_normal, mapB_ret, mapB_exit, leave_ret, leave_normal, resVs, resV, oneOf, Option.isNone_none, Option.isNone_some, runNilck, runFieldAddr, asPtr, runUn, asB, capsOf, Bool.not_true, Bool.not_false, beq_self_eq_true, b_tf, b_ft, cells_agg, cells_int, cells_bool, cells_str, cells_ptr, cells_slice, cells_map, Nat.zero_add, Nat.add_zero, and_self, and_true, true_and]
theorem last_nil (m : Mem) : Call S tab 17 [.pointer none] m = some (.int .i64 0, m) := by
  rw [eq17]
  simp -implicitDefEqProofs only [fn17, X_seq, X_region, X_cond, X_block, Exec_ret, Exec_skip, Exec_exit, X_cons, X_nil, opsK_some, guardK_true, guardK_false, wanted_none, wanted_some, stepOp, AOp.run, aval, avals, avalO, aparts, plain, putT, runBox, runBuildSlice, List.length_cons, List.length_nil, List.cons_append, List.nil_append, List.replicate_succ, List.replicate_zero, List.length_replicate, Nat.reduceAdd, Nat.reduceSub, Nat.reduceMul, Nat.reduceLT, Nat.reduceLeDiff, Nat.reduceEqDiff, if_true, if_false, reduceIte, Bool.false_eq_true, Bool.true_eq_false, Option.bind_some, Option.map_some, Option.getD_some, List.set_cons_succ, List.set_cons_zero, List.getElem?_cons_succ, List.getElem?_cons_zero, List.length_set, runEqNil, nilKind, bothNil, thenC_normal, thenC_ret, thenC_exit, condK_true, condK_false, mapN_some, mapB_normal, mapB_ret, mapB_exit, leave_ret, leave_normal, resVs, resV, oneOf, Option.isNone_none, Option.isNone_some, runNilck, runFieldAddr, asPtr, runUn, asB, capsOf, Bool.not_true, Bool.not_false, beq_self_eq_true, b_tf, b_ft, cells_agg, cells_int, cells_bool, cells_str, cells_ptr, cells_slice, cells_map, Nat.zero_add, Nat.add_zero, and_self, and_true, true_and]
theorem all_nil (m : Mem) : Call S tab 19 [.pointer none] m = some (.slice none 0 0, m) := by
  rw [eq19]
  simp -implicitDefEqProofs only [fn19, X_seq, X_region, X_cond, X_block, Exec_ret, Exec_skip, Exec_exit, X_cons, X_nil, opsK_some, guardK_true, guardK_false, wanted_none, wanted_some, stepOp, AOp.run, aval, avals, avalO, aparts, plain, putT, runBox, runBuildSlice, List.length_cons, List.length_nil, List.cons_append, List.nil_append, List.replicate_succ, List.replicate_zero, List.length_replicate, Nat.reduceAdd, Nat.reduceSub, Nat.reduceMul, Nat.reduceLT, Nat.reduceLeDiff, Nat.reduceEqDiff, if_true, if_false, reduceIte, Bool.false_eq_true, Bool.true_eq_false, Option.bind_some, Option.map_some, Option.getD_some, List.set_cons_succ, List.set_cons_zero, List.getElem?_cons_succ, List.getElem?_cons_zero, List.length_set, runEqNil, nilKind, bothNil, thenC_normal, thenC_ret, thenC_exit, condK_true, condK_false, mapN_some, mapB_normal, mapB_ret, mapB_exit, leave_ret, leave_normal, resVs, resV, oneOf, Option.isNone_none, Option.isNone_some, runNilck, runFieldAddr, asPtr, runUn, asB, capsOf, Bool.not_true, Bool.not_false, beq_self_eq_true, b_tf, b_ft, cells_agg, cells_int, cells_bool, cells_str, cells_ptr, cells_slice, cells_map, Nat.zero_add, Nat.add_zero, and_self, and_true, true_and]
theorem count_nil (k : Int) (m : Mem) : Call S tab 20 [.pointer none, .int .i64 k] m = some (.int .i64 0, m) := by
  rw [eq20]
  simp -implicitDefEqProofs only [fn20, X_seq, X_region, X_cond, X_block, Exec_ret, Exec_skip, Exec_exit, X_cons, X_nil, opsK_some, guardK_true, guardK_false, wanted_none, wanted_some, stepOp, AOp.run, aval, avals, avalO, aparts, plain, putT, runBox, runBuildSlice, List.length_cons, List.length_nil, List.cons_append, List.nil_append, List.replicate_succ, List.replicate_zero, List.length_replicate, Nat.reduceAdd, Nat.reduceSub, Nat.reduceMul, Nat.reduceLT, Nat.reduceLeDiff, Nat.reduceEqDiff, if_true, if_false, reduceIte, Bool.false_eq_true, Bool.true_eq_false, Option.bind_some, Option.map_some, Option.getD_some, List.set_cons_succ, List.set_cons_zero, List.getElem?_cons_succ, List.getElem?_cons_zero, List.length_set, runEqNil, nilKind, bothNil, thenC_normal, thenC_ret, thenC_exit, condK_true, condK_false, mapN_some, mapB_normal, mapB_ret, mapB_exit, leave_ret, leave_normal, resVs, resV, oneOf, Option.isNone_none, Option.isNone_some, runNilck, runFieldAddr, asPtr, runUn, asB, capsOf, Bool.not_true, Bool.not_false, beq_self_eq_true, b_tf, b_ft, cells_agg, cells_int, cells_bool, cells_str, cells_ptr, cells_slice, cells_map, Nat.zero_add, Nat.add_zero, and_self, and_true, true_and]

/-- The beginning of a list: 300 at most. -/
theorem early_ok (v : Value) (n : Nat) (cells : List Value) (m : Mem) (h : Sl 6 m v n cells) (hn : n ≤ maxLen) :
    ∃ v', Call S tab 13 [v] m = some (v', m) ∧ Sl 6 m v' (min n 300) (cells.take (min n 300 * 6)) ∧ blkOf v' = blkOf v := by
  have hlen := h.len
  obtain ⟨h1, h2⟩ := h
  have hmin : min2 (.int .i64 n) (.int .i64 300) = some (.int .i64 ((min n 300 : Nat) : Int)) := by
    simp only [min2]
    congr 2
    split <;> omega
  have hs : ∃ v', runSliceS 6 v none (some (.int .i64 ((min n 300 : Nat) : Int))) m = some v' ∧ Sl 6 m v' (min n 300) (cells.take (min n 300 * 6)) ∧ blkOf v' = blkOf v := by
    have hle : min n 300 ≤ n := Nat.min_le_left ..
    rcases h2 with ⟨rfl, rfl⟩ | ⟨b, off, cap, rfl, hc, h3⟩
    · refine ⟨.slice none 0 0, by simp [runSliceS, boundsV, boundV], ⟨by simp, .inl ⟨rfl, by simp⟩⟩, rfl⟩
    · refine ⟨.slice (some ⟨b, off, none⟩) (min n 300) cap, ?_, ⟨?_, .inr ⟨b, off, cap, rfl, by omega, ?_⟩⟩, rfl⟩
      · have hb : boundsV n cap none (some (.int .i64 ((min n 300 : Nat) : Int))) = some (0, min n 300) := by
          have : (0 : Int) ≤ ((min n 300 : Nat) : Int) ∧ ((min n 300 : Nat) : Int) ≤ (cap : Int) := by omega
          simp only [boundsV, boundV, if_pos this, Option.bind_some, Option.map_some]
          simp
        simp only [runSliceS, hb, Option.bind_some, true_or, if_true]
        simp
      · rw [List.length_take, h1]
        have : min n 300 * 6 ≤ n * 6 := Nat.mul_le_mul_right _ hle
        omega
      · rcases h3 with h3 | ⟨c, h4, h5, h6⟩
        · exact .inl (by omega)
        · refine .inr ⟨c, h4, by omega, ?_⟩
          rw [h6, List.take_take]
          congr 1
          omega
  obtain ⟨v', hs1, hs2, hs3⟩ := hs
  refine ⟨v', ?_, hs2, hs3⟩
  rw [eq13]
  simp -implicitDefEqProofs only [fn13, X_seq, X_region, X_cond, X_block, Exec_ret, Exec_skip, Exec_exit, X_cons, X_nil, opsK_some, guardK_true, guardK_false, wanted_none, wanted_some, stepOp, AOp.run, aval, avals, avalO, aparts, plain, putT, runBox, runBuildSlice, List.length_cons, List.length_nil, List.cons_append, List.nil_append, List.replicate_succ, List.replicate_zero, List.length_replicate, Nat.reduceAdd, Nat.reduceSub, Nat.reduceMul, Nat.reduceLT, Nat.reduceLeDiff, Nat.reduceEqDiff, if_true, if_false, reduceIte, Bool.false_eq_true, Bool.true_eq_false, Option.bind_some, Option.map_some, Option.getD_some, List.set_cons_succ, List.set_cons_zero, List.getElem?_cons_succ, List.getElem?_cons_zero, List.length_set, runEqNil, nilKind, bothNil, thenC_normal, thenC_ret, thenC_exit, condK_true, condK_false, mapN_some, mapB_normal, mapB_ret, mapB_exit, leave_ret, leave_normal, resVs, resV, oneOf, Option.isNone_none, Option.isNone_some, runNilck, runFieldAddr, asPtr, runUn, asB, capsOf, Bool.not_true, Bool.not_false, beq_self_eq_true, b_tf, b_ft, cells_agg, cells_int, cells_bool, cells_str, cells_ptr, cells_slice, cells_map, Nat.zero_add, Nat.add_zero, and_self, and_true, true_and, hlen, foldV, hmin, hs1]

/-- What a loop over a list, of a box that isn't there, finds at the head of a round. -/
structure NilR (l : Value) (n : Nat) (cells : List Value) (i : Nat) (ts : List Value) (m : Mem) (out : Value) : Prop where
  len : ts.length = 22
  t1 : ts[0]? = some (.pointer none)
  t5 : ts[5]? = some out
  t8 : ts[8]? = some l
  t9 : ts[9]? = some (.int .i64 n)
  t10 : ts[10]? = some (.int .i64 i)
  sl : Sl 6 m l n cells
  one : cells.all (·.oneCell') = true
  lt : ∀ b ∈ blkOf l, b < m.next
  own : Own 1 33 m out i (List.replicate i (.int .i64 5))
  ne : ∀ b ∈ blkOf l, b ∉ blkOf out

theorem takes_nil_loop (l : Value) (n : Nat) (cells : List Value) (hn : n ≤ 300) : ∀ (d i : Nat) (ts : List Value) (m : Mem) (out : Value), i + d = n → NilR l n cells i ts m out →
    ∃ ts' m' out', Exec S tab (.loop fn21_l0) ts m = some (.exit 0, ts', m') ∧ NilR l n cells n ts' m' out' ∧ Upd (blkOf out) m m' := by
  intro d
  induction d with
  | zero =>
    intro i ts m out hi R
    obtain rfl : i = n := by omega
    refine ⟨ts.set 11 (.bool false), m, out, ?_, ⟨by rw [List.length_set]; exact R.len, by rw [List.getElem?_set_ne (by decide)]; exact R.t1, by rw [List.getElem?_set_ne (by decide)]; exact R.t5, by rw [List.getElem?_set_ne (by decide)]; exact R.t8, by rw [List.getElem?_set_ne (by decide)]; exact R.t9, by rw [List.getElem?_set_ne (by decide)]; exact R.t10, R.sl, R.one, R.lt, R.own, R.ne⟩, Upd.refl _ _⟩
    rw [X_loop]
    have hlt : ¬ ((i : Int) < (i : Int)) := by omega
    simp -implicitDefEqProofs only [fn21_l0, X_seq, X_region, X_cond, X_block, Exec_ret, Exec_skip, Exec_exit, X_cons, X_nil, opsK_some, guardK_true, guardK_false, wanted_none, wanted_some, stepOp, AOp.run, aval, avals, avalO, aparts, plain, putT, runBox, runBuildSlice, List.length_cons, List.length_nil, List.cons_append, List.nil_append, List.replicate_succ, List.replicate_zero, List.length_replicate, Nat.reduceAdd, Nat.reduceSub, Nat.reduceMul, Nat.reduceLT, Nat.reduceLeDiff, Nat.reduceEqDiff, if_true, if_false, reduceIte, Bool.false_eq_true, Bool.true_eq_false, Option.bind_some, Option.map_some, Option.getD_some, List.set_cons_succ, List.set_cons_zero, List.getElem?_cons_succ, List.getElem?_cons_zero, List.length_set, runEqNil, nilKind, bothNil, thenC_normal, thenC_ret, thenC_exit, condK_true, condK_false, mapN_some, mapB_normal, mapB_ret, mapB_exit, leave_ret, leave_normal, resVs, resV, oneOf, Option.isNone_none, Option.isNone_some, runNilck, runFieldAddr, asPtr, runUn, asB, capsOf, Bool.not_true, Bool.not_false, beq_self_eq_true, b_tf, b_ft, cells_agg, cells_int, cells_bool, cells_str, cells_ptr, cells_slice, cells_map, Nat.zero_add, Nat.add_zero, and_self, and_true, true_and, List.getElem?_set, R.len, R.t9, R.t10, arith, iop, hlt, decide_false]
  | succ d ih =>
    intro i ts m out hi R
    have hin : i < n := by omega
    have hlt : (i : Int) < (n : Int) := by omega
    obtain ⟨p, hp1, hp2, _⟩ := R.sl.index .i64 i hin
    have hcl := R.sl.1
    generalize hmsg : (cells.drop (i * 6)).take 6 = msg at hp2
    have hml : msg.length = 6 := by rw [← hmsg]; exact piece_len hcl hin
    have hm1 : msg.all (·.oneCell') = true := by rw [← hmsg]; exact drop_take_all R.one _ _
    -- the round's own variable
    have hbs := box_store m 32 (c := [.int .i64 0, .int .i64 0, .int .i64 0, .int .i64 0, .int .i64 0, .string ⟨#[]⟩]) (n := 6) rfl hml hm1
    generalize hz : (⟨.cells [.int .i64 0, .int .i64 0, .int .i64 0, .int .i64 0, .int .i64 0, .string ⟨#[]⟩] 32, false, none⟩ : ABlk) = zb at hbs
    generalize hm2 : (m.add zb).put m.next ⟨.cells msg 32, false, none⟩ = m2 at hbs
    have hn2 : m2.next = m.next + 1 := by rw [← hm2]; rfl
    have hg2 : m2.get m.next = some ⟨.cells msg 32, false, none⟩ := by rw [← hm2, Mem.get_put_self]
    have hu2 : ∀ b, b < m.next → m2.get b = m.get b := fun b hb => by rw [← hm2, Mem.get_put_other _ _ (by omega), Mem.get_add_other _ _ hb]
    have hl2 := load_whole hg2 hml
    have htk := take_nil (.agg msg.toArray) m2
    simp only [runBox, Value.cells] at htk
    generalize hm3 : m2.add ⟨.cells msg 32, false, none⟩ = m3 at htk
    have hn3 : m3.next = m.next + 2 := by rw [← hm3, Mem.next_add, hn2]
    have hu3 : ∀ b, b < m.next → m3.get b = m.get b := fun b hb => by rw [← hm3, Mem.get_add_other _ _ (by omega), hu2 b hb]
    generalize hm4 : m3.add ⟨.cells [.int .i64 5] 33, false, none⟩ = m4
    have hn4 : m4.next = m.next + 3 := by rw [← hm4, Mem.next_add, hn3]
    have hg4 : m4.get m3.next = some ⟨.cells [.int .i64 5] 33, false, none⟩ := by rw [← hm4]; exact Mem.get_add_self ..
    have hu4 : ∀ b, b < m.next → m4.get b = m.get b := fun b hb => by rw [← hm4, Mem.get_add_other _ _ (by omega), hu3 b hb]
    have own4 := R.own.mono (m' := m4) (by omega) (fun b hb => hu4 b (R.own.lt b hb))
    obtain ⟨out', m5, ha1, ha2, ha3, ha4, ha5⟩ := own4.append (k := 1) (eb := 8) (nc := [.int .i64 5]) (by decide) rfl rfl (by omega) (by omega)
    have hsrc : runSrc 1 (.slice (some ⟨m3.next, 0, none⟩) 1 1) m4 = some (1, [.int .i64 5]) := by simp [runSrc, cellsAt_of_get hg4]
    have hu5 : ∀ b ∈ blkOf l, m5.get b = m.get b := fun b hb => by rw [ha3.same b (by have := R.lt b hb; omega) (R.ne b hb), hu4 b (R.lt b hb)]
    have hfill := afill_one (c := [.int .i64 0]) (v := .int .i64 5) (n := 1) rfl rfl
    simp only [Value.cells] at hfill
    have hw : IntKind.i64.wrap ((i : Int) + 1) = ((i + 1 : Nat) : Int) := by rw [wrap_in (by omega) (by omega)]; rfl
    have hrep : List.replicate i (Value.int .i64 5) ++ [.int .i64 5] = List.replicate (i + 1) (.int .i64 5) := by rw [List.replicate_succ']
    rw [hrep] at ha2
    have hround : ∃ ts', Exec S tab fn21_l0 ts m = some (.normal, ts', m5) ∧ NilR l n cells (i + 1) ts' m5 out' := by
      obtain ⟨E, hE⟩ : ∃ E, Exec S tab fn21_l0 ts m = E := ⟨_, rfl⟩
      have hE2 := hE
      simp -implicitDefEqProofs only [fn21_l0, X_seq, X_region, X_cond, X_block, Exec_ret, Exec_skip, Exec_exit, X_cons, X_nil, opsK_some, guardK_true, guardK_false, wanted_none, wanted_some, stepOp, AOp.run, aval, avals, avalO, aparts, plain, putT, runBox, runBuildSlice, List.length_cons, List.length_nil, List.cons_append, List.nil_append, List.replicate_succ, List.replicate_zero, List.length_replicate, Nat.reduceAdd, Nat.reduceSub, Nat.reduceMul, Nat.reduceLT, Nat.reduceLeDiff, Nat.reduceEqDiff, if_true, if_false, reduceIte, Bool.false_eq_true, Bool.true_eq_false, Option.bind_some, Option.map_some, Option.getD_some, List.set_cons_succ, List.set_cons_zero, List.getElem?_cons_succ, List.getElem?_cons_zero, List.length_set, runEqNil, nilKind, bothNil, thenC_normal, thenC_ret, thenC_exit, condK_true, condK_false, mapN_some, mapB_normal, mapB_ret, mapB_exit, leave_ret, leave_normal, resVs, resV, oneOf, Option.isNone_none, Option.isNone_some, runNilck, runFieldAddr, asPtr, runUn, asB, capsOf, Bool.not_true, Bool.not_false, beq_self_eq_true, b_tf, b_ft, cells_agg, cells_int, cells_bool, cells_str, cells_ptr, cells_slice, cells_map, Nat.zero_add, Nat.add_zero, and_self, and_true, true_and, List.getElem?_set, R.len, R.t1, R.t5, R.t8, R.t9, R.t10, arith, iop, hlt, decide_true, hp1, hp2, hz, hbs, hl2, htk, hfill, hm4, hsrc, ha1, hw] at hE2
      exact ⟨_, hE.trans hE2.symm, {
        len := by simp -implicitDefEqProofs only [List.length_set, R.len]
        t1 := by simp -implicitDefEqProofs only [X_seq, X_region, X_cond, X_block, Exec_ret, Exec_skip, Exec_exit, X_cons, X_nil, opsK_some, guardK_true, guardK_false, wanted_none, wanted_some, stepOp, AOp.run, aval, avals, avalO, aparts, plain, putT, runBox, runBuildSlice, List.length_cons, List.length_nil, List.cons_append, List.nil_append, List.replicate_succ, List.replicate_zero, List.length_replicate, Nat.reduceAdd, Nat.reduceSub, Nat.reduceMul, Nat.reduceLT, Nat.reduceLeDiff, Nat.reduceEqDiff, if_true, if_false, reduceIte, Bool.false_eq_true, Bool.true_eq_false, Option.bind_some, Option.map_some, Option.getD_some, List.set_cons_succ, List.set_cons_zero, List.getElem?_cons_succ, List.getElem?_cons_zero, List.length_set, runEqNil, nilKind, bothNil, thenC_normal, thenC_ret, thenC_exit, condK_true, condK_false, mapN_some, mapB_normal, mapB_ret, mapB_exit, leave_ret, leave_normal, resVs, resV, oneOf, Option.isNone_none, Option.isNone_some, runNilck, runFieldAddr, asPtr, runUn, asB, capsOf, Bool.not_true, Bool.not_false, beq_self_eq_true, b_tf, b_ft, cells_agg, cells_int, cells_bool, cells_str, cells_ptr, cells_slice, cells_map, Nat.zero_add, Nat.add_zero, and_self, and_true, true_and, List.getElem?_set, R.len, R.t1]
        t5 := by simp -implicitDefEqProofs only [X_seq, X_region, X_cond, X_block, Exec_ret, Exec_skip, Exec_exit, X_cons, X_nil, opsK_some, guardK_true, guardK_false, wanted_none, wanted_some, stepOp, AOp.run, aval, avals, avalO, aparts, plain, putT, runBox, runBuildSlice, List.length_cons, List.length_nil, List.cons_append, List.nil_append, List.replicate_succ, List.replicate_zero, List.length_replicate, Nat.reduceAdd, Nat.reduceSub, Nat.reduceMul, Nat.reduceLT, Nat.reduceLeDiff, Nat.reduceEqDiff, if_true, if_false, reduceIte, Bool.false_eq_true, Bool.true_eq_false, Option.bind_some, Option.map_some, Option.getD_some, List.set_cons_succ, List.set_cons_zero, List.getElem?_cons_succ, List.getElem?_cons_zero, List.length_set, runEqNil, nilKind, bothNil, thenC_normal, thenC_ret, thenC_exit, condK_true, condK_false, mapN_some, mapB_normal, mapB_ret, mapB_exit, leave_ret, leave_normal, resVs, resV, oneOf, Option.isNone_none, Option.isNone_some, runNilck, runFieldAddr, asPtr, runUn, asB, capsOf, Bool.not_true, Bool.not_false, beq_self_eq_true, b_tf, b_ft, cells_agg, cells_int, cells_bool, cells_str, cells_ptr, cells_slice, cells_map, Nat.zero_add, Nat.add_zero, and_self, and_true, true_and, List.getElem?_set, R.len, R.t1]
        t8 := by simp -implicitDefEqProofs only [X_seq, X_region, X_cond, X_block, Exec_ret, Exec_skip, Exec_exit, X_cons, X_nil, opsK_some, guardK_true, guardK_false, wanted_none, wanted_some, stepOp, AOp.run, aval, avals, avalO, aparts, plain, putT, runBox, runBuildSlice, List.length_cons, List.length_nil, List.cons_append, List.nil_append, List.replicate_succ, List.replicate_zero, List.length_replicate, Nat.reduceAdd, Nat.reduceSub, Nat.reduceMul, Nat.reduceLT, Nat.reduceLeDiff, Nat.reduceEqDiff, if_true, if_false, reduceIte, Bool.false_eq_true, Bool.true_eq_false, Option.bind_some, Option.map_some, Option.getD_some, List.set_cons_succ, List.set_cons_zero, List.getElem?_cons_succ, List.getElem?_cons_zero, List.length_set, runEqNil, nilKind, bothNil, thenC_normal, thenC_ret, thenC_exit, condK_true, condK_false, mapN_some, mapB_normal, mapB_ret, mapB_exit, leave_ret, leave_normal, resVs, resV, oneOf, Option.isNone_none, Option.isNone_some, runNilck, runFieldAddr, asPtr, runUn, asB, capsOf, Bool.not_true, Bool.not_false, beq_self_eq_true, b_tf, b_ft, cells_agg, cells_int, cells_bool, cells_str, cells_ptr, cells_slice, cells_map, Nat.zero_add, Nat.add_zero, and_self, and_true, true_and, List.getElem?_set, R.len, R.t8]
        t9 := by simp -implicitDefEqProofs only [X_seq, X_region, X_cond, X_block, Exec_ret, Exec_skip, Exec_exit, X_cons, X_nil, opsK_some, guardK_true, guardK_false, wanted_none, wanted_some, stepOp, AOp.run, aval, avals, avalO, aparts, plain, putT, runBox, runBuildSlice, List.length_cons, List.length_nil, List.cons_append, List.nil_append, List.replicate_succ, List.replicate_zero, List.length_replicate, Nat.reduceAdd, Nat.reduceSub, Nat.reduceMul, Nat.reduceLT, Nat.reduceLeDiff, Nat.reduceEqDiff, if_true, if_false, reduceIte, Bool.false_eq_true, Bool.true_eq_false, Option.bind_some, Option.map_some, Option.getD_some, List.set_cons_succ, List.set_cons_zero, List.getElem?_cons_succ, List.getElem?_cons_zero, List.length_set, runEqNil, nilKind, bothNil, thenC_normal, thenC_ret, thenC_exit, condK_true, condK_false, mapN_some, mapB_normal, mapB_ret, mapB_exit, leave_ret, leave_normal, resVs, resV, oneOf, Option.isNone_none, Option.isNone_some, runNilck, runFieldAddr, asPtr, runUn, asB, capsOf, Bool.not_true, Bool.not_false, beq_self_eq_true, b_tf, b_ft, cells_agg, cells_int, cells_bool, cells_str, cells_ptr, cells_slice, cells_map, Nat.zero_add, Nat.add_zero, and_self, and_true, true_and, List.getElem?_set, R.len, R.t9]
        t10 := by simp -implicitDefEqProofs only [X_seq, X_region, X_cond, X_block, Exec_ret, Exec_skip, Exec_exit, X_cons, X_nil, opsK_some, guardK_true, guardK_false, wanted_none, wanted_some, stepOp, AOp.run, aval, avals, avalO, aparts, plain, putT, runBox, runBuildSlice, List.length_cons, List.length_nil, List.cons_append, List.nil_append, List.replicate_succ, List.replicate_zero, List.length_replicate, Nat.reduceAdd, Nat.reduceSub, Nat.reduceMul, Nat.reduceLT, Nat.reduceLeDiff, Nat.reduceEqDiff, if_true, if_false, reduceIte, Bool.false_eq_true, Bool.true_eq_false, Option.bind_some, Option.map_some, Option.getD_some, List.set_cons_succ, List.set_cons_zero, List.getElem?_cons_succ, List.getElem?_cons_zero, List.length_set, runEqNil, nilKind, bothNil, thenC_normal, thenC_ret, thenC_exit, condK_true, condK_false, mapN_some, mapB_normal, mapB_ret, mapB_exit, leave_ret, leave_normal, resVs, resV, oneOf, Option.isNone_none, Option.isNone_some, runNilck, runFieldAddr, asPtr, runUn, asB, capsOf, Bool.not_true, Bool.not_false, beq_self_eq_true, b_tf, b_ft, cells_agg, cells_int, cells_bool, cells_str, cells_ptr, cells_slice, cells_map, Nat.zero_add, Nat.add_zero, and_self, and_true, true_and, List.getElem?_set, R.len, R.t10]
        sl := R.sl.mono hu5
        one := R.one
        lt := fun b hb => by have := R.lt b hb; omega
        own := ha2
        ne := fun b hb hb' => by rw [ha5] at hb'; have := R.lt b hb; simp at hb'; omega }⟩
    obtain ⟨ts', hr1, hr2⟩ := hround
    obtain ⟨ts'', m'', out'', g1, g2, g3⟩ := ih (i + 1) ts' m5 out' (by omega) hr2
    refine ⟨ts'', m'', out'', ?_, g2, ?_⟩
    · rw [X_loop, hr1, thenC_normal]; exact g1
    · have h5 : Upd (blkOf out) m m5 := ⟨by omega, fun b hb hnb => by rw [ha3.same b (by omega) hnb, hu4 b hb]⟩
      exact h5.trans_new g3 (fun b hb => by rw [ha5] at hb; simp at hb; exact .inr (by omega))

/-- A list told to a box that isn't there. -/
theorem takes_nil (l : Value) (n : Nat) (cells : List Value) (m : Mem) (hn : n ≤ 300) (hsl : Sl 6 m l n cells) (hone : cells.all (·.oneCell') = true) (hlt : ∀ b ∈ blkOf l, b < m.next) :
    ∃ m' out, Call S tab 21 [.pointer none, l] m = some (out, m') ∧ Own 1 33 m' out n (List.replicate n (.int .i64 5)) ∧ Upd [] m m' := by
  have hlen := hsl.len
  obtain ⟨ts, m', out, h1, R, h3⟩ := takes_nil_loop l n cells hn n 0 [.pointer none, l, undef, undef, .slice none 0 0, .slice none 0 0, undef, undef, l, .int .i64 n, .int .i64 0, undef, undef, undef, undef, undef, undef, undef, undef, undef, undef, undef] m (.slice none 0 0) (by omega)
    ⟨rfl, rfl, rfl, rfl, rfl, rfl, hsl, hone, hlt, Own.nil 1 33 m, fun b _ h => by simp [blkOf] at h⟩
  refine ⟨m', out, ?_, R.own, by simpa [blkOf] using h3⟩
  rw [eq21]
  simp -implicitDefEqProofs only [fn21, X_seq, X_region, X_cond, X_block, Exec_ret, Exec_skip, Exec_exit, X_cons, X_nil, opsK_some, guardK_true, guardK_false, wanted_none, wanted_some, stepOp, AOp.run, aval, avals, avalO, aparts, plain, putT, runBox, runBuildSlice, List.length_cons, List.length_nil, List.cons_append, List.nil_append, List.replicate_succ, List.replicate_zero, List.length_replicate, Nat.reduceAdd, Nat.reduceSub, Nat.reduceMul, Nat.reduceLT, Nat.reduceLeDiff, Nat.reduceEqDiff, if_true, if_false, reduceIte, Bool.false_eq_true, Bool.true_eq_false, Option.bind_some, Option.map_some, Option.getD_some, List.set_cons_succ, List.set_cons_zero, List.getElem?_cons_succ, List.getElem?_cons_zero, List.length_set, runEqNil, nilKind, bothNil, thenC_normal, thenC_ret, thenC_exit, condK_true, condK_false, mapN_some, mapB_normal, mapB_ret, mapB_exit, leave_ret, leave_normal, resVs, resV, oneOf, Option.isNone_none, Option.isNone_some, runNilck, runFieldAddr, asPtr, runUn, asB, capsOf, Bool.not_true, Bool.not_false, beq_self_eq_true, b_tf, b_ft, cells_agg, cells_int, cells_bool, cells_str, cells_ptr, cells_slice, cells_map, Nat.zero_add, Nat.add_zero, and_self, and_true, true_and, hlen, h1, List.getElem?_set, R.len, R.t5]

end Go.Fx.Try
