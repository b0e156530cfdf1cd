/- The law DutyTurns on the abstract machine. -/
import Derived.Test.YtbihanbnnhipjaaDutyW
namespace Go.Fx.Try
open Go Go.Fx
set_option linter.unusedSimpArgs false
set_option linter.unusedVariables false

theorem joined_nodup {l : List Int} {id : Int} (h : l.Nodup) : (joined l id).Nodup := by
  unfold joined
  split
  · exact h
  · rename_i hn
    rw [List.nodup_append]
    exact ⟨h, by simp, fun a ha b hb => by simp at hb; subst hb; rintro rfl; exact hn ha⟩
theorem joined_len (l : List Int) (id : Int) : (joined l id).length ≤ l.length + 1 := by
  unfold joined; split <;> simp

theorem wrap_u64_nonneg (x : Int) : 0 ≤ IntKind.u64.wrap x := by
  have hb : (2 ^ IntKind.u64.bits : Int) = 18446744073709551616 := by decide
  unfold IntKind.wrap
  simp only [hb, IntKind.signed, Bool.false_and, Bool.false_eq_true, if_false]
  omega
theorem tmod_nat {x : Int} (h : 0 ≤ x) {n : Nat} (hn : 0 < n) : ∃ f : Nat, x.tmod (n : Int) = f ∧ f < n := by
  obtain ⟨a, rfl⟩ := Int.eq_ofNat_of_zero_le h
  exact ⟨a % n, by rw [Int.ofNat_tmod], Nat.mod_lt _ hn⟩

structure TjR (ids turns q : Value) (L : List Int) (i : Nat) (ts : List Value) (m : Mem) (B : List Nat) (l : List Int) : Prop where
  len : ts.length = 78
  t0 : ts[0]? = some ids
  t1 : ts[1]? = some turns
  t5 : ts[5]? = some q
  t6 : ts[6]? = some (.int .i64 i)
  box : QAt m q B l
  nd : l.Nodup
  ll : l.length ≤ i
  sl : TSl encI m ids L
  slt : ∀ b ∈ blkOf ids, b < m.next ∧ b ∉ B

theorem tj_loop (ids turns q : Value) (L : List Int) (n : Nat) (hn : n = min L.length 50) : ∀ (d i : Nat) (ts : List Value) (m : Mem) (B : List Nat) (l : List Int), i + d = n → TjR ids turns q L i ts m B l →
    ∃ ts' m' B' l', Exec S tab (.loop fn9_l0) ts m = some (.exit 0, ts', m') ∧ TjR ids turns q L n ts' m' B' l' := by
  intro d
  induction d with
  | zero =>
    intro i ts m B l hi R
    obtain rfl : i = n := by omega
    have hend : ∃ ts', Exec S tab (.loop fn9_l0) ts m = some (.exit 0, ts', m) ∧ TjR ids turns q L i ts' m B l := by
      by_cases h1 : i < L.length
      · have b1 : decide ((i : Int) < (L.length : Int)) = true := by simp; omega
        have b2 : decide ((i : Int) < 50) = false := by simp; omega
        obtain ⟨E, hE⟩ : ∃ E, Exec S tab (.loop fn9_l0) ts m = E := ⟨_, rfl⟩
        have hE2 := hE
        rw [X_loop] at hE2
        simp -implicitDefEqProofs only [fn9_l0, X_seq, X_region, X_cond, X_block, Exec_ret, Exec_skip, Exec_exit, X_cons, X_nil, opsK_some, guardK_true, guardK_false, wanted_none, wanted_some, stepOp, AOp.run, aval, avals, avalO, aparts, plain, putT, runBox, runBuildSlice, List.length_cons, List.length_nil, List.cons_append, List.nil_append, List.replicate_succ, List.replicate_zero, List.length_replicate, Nat.reduceAdd, Nat.reduceSub, Nat.reduceMul, Nat.reduceLT, Nat.reduceLeDiff, Nat.reduceEqDiff, if_true, if_false, reduceIte, Bool.false_eq_true, Bool.true_eq_false, Option.bind_some, Option.map_some, Option.getD_some, List.set_cons_succ, List.set_cons_zero, List.getElem?_cons_succ, List.getElem?_cons_zero, List.length_set, List.getElem?_toArray, runEqNil, nilKind, bothNil, thenC_normal, thenC_ret, thenC_exit, condK_true, condK_false, mapN_some, mapB_normal, mapB_ret, mapB_exit, leave_ret, leave_normal, resVs, resV, oneOf, Option.isNone_none, Option.isNone_some, runNilck, runFieldAddr, asPtr, runUn, asB, capsOf, Bool.not_true, Bool.not_false, beq_self_eq_true, b_tf, b_ft, cells_agg, cells_int, cells_bool, cells_str, cells_ptr, cells_slice, cells_map, Nat.zero_add, Nat.add_zero, and_self, and_true, true_and, List.getElem?_set, R.len, R.t0, R.t6, R.sl.len, arith, iop, b1, b2] at hE2
        refine ⟨_, hE.trans hE2.symm, { box := R.box, nd := R.nd, ll := R.ll, sl := R.sl, slt := R.slt, len := ?_, t0 := ?_, t1 := ?_, t5 := ?_, t6 := ?_ }⟩ <;>
          simp -implicitDefEqProofs only [X_seq, X_region, X_cond, X_block, Exec_ret, Exec_skip, Exec_exit, X_cons, X_nil, opsK_some, guardK_true, guardK_false, wanted_none, wanted_some, stepOp, AOp.run, aval, avals, avalO, aparts, plain, putT, runBox, runBuildSlice, List.length_cons, List.length_nil, List.cons_append, List.nil_append, List.replicate_succ, List.replicate_zero, List.length_replicate, Nat.reduceAdd, Nat.reduceSub, Nat.reduceMul, Nat.reduceLT, Nat.reduceLeDiff, Nat.reduceEqDiff, if_true, if_false, reduceIte, Bool.false_eq_true, Bool.true_eq_false, Option.bind_some, Option.map_some, Option.getD_some, List.set_cons_succ, List.set_cons_zero, List.getElem?_cons_succ, List.getElem?_cons_zero, List.length_set, List.getElem?_toArray, runEqNil, nilKind, bothNil, thenC_normal, thenC_ret, thenC_exit, condK_true, condK_false, mapN_some, mapB_normal, mapB_ret, mapB_exit, leave_ret, leave_normal, resVs, resV, oneOf, Option.isNone_none, Option.isNone_some, runNilck, runFieldAddr, asPtr, runUn, asB, capsOf, Bool.not_true, Bool.not_false, beq_self_eq_true, b_tf, b_ft, cells_agg, cells_int, cells_bool, cells_str, cells_ptr, cells_slice, cells_map, Nat.zero_add, Nat.add_zero, and_self, and_true, true_and, List.getElem?_set, R.len, R.t0, R.t1, R.t5, R.t6]
      · have b1 : decide ((i : Int) < (L.length : Int)) = false := by simp; omega
        obtain ⟨E, hE⟩ : ∃ E, Exec S tab (.loop fn9_l0) ts m = E := ⟨_, rfl⟩
        have hE2 := hE
        rw [X_loop] at hE2
        simp -implicitDefEqProofs only [fn9_l0, X_seq, X_region, X_cond, X_block, Exec_ret, Exec_skip, Exec_exit, X_cons, X_nil, opsK_some, guardK_true, guardK_false, wanted_none, wanted_some, stepOp, AOp.run, aval, avals, avalO, aparts, plain, putT, runBox, runBuildSlice, List.length_cons, List.length_nil, List.cons_append, List.nil_append, List.replicate_succ, List.replicate_zero, List.length_replicate, Nat.reduceAdd, Nat.reduceSub, Nat.reduceMul, Nat.reduceLT, Nat.reduceLeDiff, Nat.reduceEqDiff, if_true, if_false, reduceIte, Bool.false_eq_true, Bool.true_eq_false, Option.bind_some, Option.map_some, Option.getD_some, List.set_cons_succ, List.set_cons_zero, List.getElem?_cons_succ, List.getElem?_cons_zero, List.length_set, List.getElem?_toArray, runEqNil, nilKind, bothNil, thenC_normal, thenC_ret, thenC_exit, condK_true, condK_false, mapN_some, mapB_normal, mapB_ret, mapB_exit, leave_ret, leave_normal, resVs, resV, oneOf, Option.isNone_none, Option.isNone_some, runNilck, runFieldAddr, asPtr, runUn, asB, capsOf, Bool.not_true, Bool.not_false, beq_self_eq_true, b_tf, b_ft, cells_agg, cells_int, cells_bool, cells_str, cells_ptr, cells_slice, cells_map, Nat.zero_add, Nat.add_zero, and_self, and_true, true_and, List.getElem?_set, R.len, R.t0, R.t6, R.sl.len, arith, iop, b1] at hE2
        refine ⟨_, hE.trans hE2.symm, { box := R.box, nd := R.nd, ll := R.ll, sl := R.sl, slt := R.slt, len := ?_, t0 := ?_, t1 := ?_, t5 := ?_, t6 := ?_ }⟩ <;>
          simp -implicitDefEqProofs only [X_seq, X_region, X_cond, X_block, Exec_ret, Exec_skip, Exec_exit, X_cons, X_nil, opsK_some, guardK_true, guardK_false, wanted_none, wanted_some, stepOp, AOp.run, aval, avals, avalO, aparts, plain, putT, runBox, runBuildSlice, List.length_cons, List.length_nil, List.cons_append, List.nil_append, List.replicate_succ, List.replicate_zero, List.length_replicate, Nat.reduceAdd, Nat.reduceSub, Nat.reduceMul, Nat.reduceLT, Nat.reduceLeDiff, Nat.reduceEqDiff, if_true, if_false, reduceIte, Bool.false_eq_true, Bool.true_eq_false, Option.bind_some, Option.map_some, Option.getD_some, List.set_cons_succ, List.set_cons_zero, List.getElem?_cons_succ, List.getElem?_cons_zero, List.length_set, List.getElem?_toArray, runEqNil, nilKind, bothNil, thenC_normal, thenC_ret, thenC_exit, condK_true, condK_false, mapN_some, mapB_normal, mapB_ret, mapB_exit, leave_ret, leave_normal, resVs, resV, oneOf, Option.isNone_none, Option.isNone_some, runNilck, runFieldAddr, asPtr, runUn, asB, capsOf, Bool.not_true, Bool.not_false, beq_self_eq_true, b_tf, b_ft, cells_agg, cells_int, cells_bool, cells_str, cells_ptr, cells_slice, cells_map, Nat.zero_add, Nat.add_zero, and_self, and_true, true_and, List.getElem?_set, R.len, R.t0, R.t1, R.t5, R.t6]
    obtain ⟨ts', h1, h2⟩ := hend
    exact ⟨ts', m, B, l, h1, h2⟩
  | succ d ih =>
    intro i ts m B l hi R
    have hin : i < L.length := by omega
    have b1 : decide ((i : Int) < (L.length : Int)) = true := by simp; omega
    have b2 : decide ((i : Int) < 50) = true := by simp; omega
    obtain ⟨b, off, hq1, hq2⟩ := R.sl.at .i64 (List.getElem?_eq_getElem hin)
    rw [isize] at hq1
    have hld := (hq2 m R.sl).2 0 (.int .i64 L[i]) rfl
    rw [Nat.add_zero] at hld
    have hwr := wrap_succ (i := i) (n := 50) (by omega) (by omega)
    obtain ⟨m1, B', j1, j2, j3, j4⟩ := join_ok L[i] R.box (by have := R.ll; omega)
    have hm1 := j3.next
    have hround : ∃ ts', Exec S tab fn9_l0 ts m = some (.normal, ts', m1) ∧ TjR ids turns q L (i + 1) ts' m1 B' (joined l L[i]) := by
      obtain ⟨E, hE⟩ : ∃ E, Exec S tab fn9_l0 ts m = E := ⟨_, rfl⟩
      have hE2 := hE
      simp -implicitDefEqProofs only [fn9_l0, X_seq, X_region, X_cond, X_block, Exec_ret, Exec_skip, Exec_exit, X_cons, X_nil, opsK_some, guardK_true, guardK_false, wanted_none, wanted_some, stepOp, AOp.run, aval, avals, avalO, aparts, plain, putT, runBox, runBuildSlice, List.length_cons, List.length_nil, List.cons_append, List.nil_append, List.replicate_succ, List.replicate_zero, List.length_replicate, Nat.reduceAdd, Nat.reduceSub, Nat.reduceMul, Nat.reduceLT, Nat.reduceLeDiff, Nat.reduceEqDiff, if_true, if_false, reduceIte, Bool.false_eq_true, Bool.true_eq_false, Option.bind_some, Option.map_some, Option.getD_some, List.set_cons_succ, List.set_cons_zero, List.getElem?_cons_succ, List.getElem?_cons_zero, List.length_set, List.getElem?_toArray, runEqNil, nilKind, bothNil, thenC_normal, thenC_ret, thenC_exit, condK_true, condK_false, mapN_some, mapB_normal, mapB_ret, mapB_exit, leave_ret, leave_normal, resVs, resV, oneOf, Option.isNone_none, Option.isNone_some, runNilck, runFieldAddr, asPtr, runUn, asB, capsOf, Bool.not_true, Bool.not_false, beq_self_eq_true, b_tf, b_ft, cells_agg, cells_int, cells_bool, cells_str, cells_ptr, cells_slice, cells_map, Nat.zero_add, Nat.add_zero, and_self, and_true, true_and, List.getElem?_set, R.len, R.t0, R.t5, R.t6, R.sl.len, arith, iop, b1, b2, hq1, hld, j1, hwr] at hE2
      refine ⟨_, hE.trans hE2.symm, { box := j2, nd := joined_nodup R.nd, ll := by have := joined_len l L[i]; have := R.ll; omega, sl := R.sl.upd j3 R.slt, slt := fun b hb => ⟨by have := (R.slt b hb).1; omega, fun hb' => (j4 b hb').elim (R.slt b hb).2 (fun h => by have := (R.slt b hb).1; omega)⟩, len := ?_, t0 := ?_, t1 := ?_, t5 := ?_, t6 := ?_ }⟩ <;>
        simp -implicitDefEqProofs only [X_seq, X_region, X_cond, X_block, Exec_ret, Exec_skip, Exec_exit, X_cons, X_nil, opsK_some, guardK_true, guardK_false, wanted_none, wanted_some, stepOp, AOp.run, aval, avals, avalO, aparts, plain, putT, runBox, runBuildSlice, List.length_cons, List.length_nil, List.cons_append, List.nil_append, List.replicate_succ, List.replicate_zero, List.length_replicate, Nat.reduceAdd, Nat.reduceSub, Nat.reduceMul, Nat.reduceLT, Nat.reduceLeDiff, Nat.reduceEqDiff, if_true, if_false, reduceIte, Bool.false_eq_true, Bool.true_eq_false, Option.bind_some, Option.map_some, Option.getD_some, List.set_cons_succ, List.set_cons_zero, List.getElem?_cons_succ, List.getElem?_cons_zero, List.length_set, List.getElem?_toArray, runEqNil, nilKind, bothNil, thenC_normal, thenC_ret, thenC_exit, condK_true, condK_false, mapN_some, mapB_normal, mapB_ret, mapB_exit, leave_ret, leave_normal, resVs, resV, oneOf, Option.isNone_none, Option.isNone_some, runNilck, runFieldAddr, asPtr, runUn, asB, capsOf, Bool.not_true, Bool.not_false, beq_self_eq_true, b_tf, b_ft, cells_agg, cells_int, cells_bool, cells_str, cells_ptr, cells_slice, cells_map, Nat.zero_add, Nat.add_zero, and_self, and_true, true_and, List.getElem?_set, R.len, R.t0, R.t1, R.t5, R.t6]
    obtain ⟨ts', hr1, hr2⟩ := hround
    obtain ⟨ts'', m'', B'', l'', g1, g2⟩ := ih (i + 1) ts' m1 B' _ (by omega) hr2
    exact ⟨ts'', m'', B'', l'', by rw [X_loop, hr1, thenC_normal]; exact g1, g2⟩

/-- The head of a round of the picks. -/
structure TpR (turns : Int) (q av : Value) (l : List Int) (t : Nat) (i : Nat) (ts : List Value) (m : Mem) (B : List Nat) : Prop where
  len : ts.length = 78
  t1 : ts[1]? = some (.int .i64 turns)
  t5 : ts[5]? = some q
  t7 : ts[7]? = some av
  t8 : ts[8]? = some (.int .i64 t)
  t9 : ts[9]? = some (.int .i64 i)
  box : QAt m q B (l.drop i ++ l.take i)
  sl : TSl encI m av l
  slt : ∀ b ∈ blkOf av, b < m.next ∧ b ∉ B

theorem tp_loop (turns : Int) (q av : Value) (l : List Int) (hnd : l.Nodup) (hl : l.length ≤ 50) (t : Nat) : ∀ (d i : Nat) (ts : List Value) (m : Mem) (B : List Nat), i + d = l.length → TpR turns q av l t i ts m B →
    ∃ ts' m' B', Exec S tab (.loop fn9_l1) ts m = some (.exit 4, ts', m') ∧ TpR turns q av l t l.length ts' m' B' := by
  intro d
  induction d with
  | zero =>
    intro i ts m B hi R
    obtain rfl : i = l.length := by omega
    have b1 : decide ((l.length : Int) < (l.length : Int)) = false := by simp
    obtain ⟨E, hE⟩ : ∃ E, Exec S tab (.loop fn9_l1) ts m = E := ⟨_, rfl⟩
    have hE2 := hE
    rw [X_loop] at hE2
    simp -implicitDefEqProofs only [fn9_l1, X_seq, X_region, X_cond, X_block, Exec_ret, Exec_skip, Exec_exit, X_cons, X_nil, opsK_some, guardK_true, guardK_false, wanted_none, wanted_some, stepOp, AOp.run, aval, avals, avalO, aparts, plain, putT, runBox, runBuildSlice, List.length_cons, List.length_nil, List.cons_append, List.nil_append, List.replicate_succ, List.replicate_zero, List.length_replicate, Nat.reduceAdd, Nat.reduceSub, Nat.reduceMul, Nat.reduceLT, Nat.reduceLeDiff, Nat.reduceEqDiff, if_true, if_false, reduceIte, Bool.false_eq_true, Bool.true_eq_false, Option.bind_some, Option.map_some, Option.getD_some, List.set_cons_succ, List.set_cons_zero, List.getElem?_cons_succ, List.getElem?_cons_zero, List.length_set, List.getElem?_toArray, runEqNil, nilKind, bothNil, thenC_normal, thenC_ret, thenC_exit, condK_true, condK_false, mapN_some, mapB_normal, mapB_ret, mapB_exit, leave_ret, leave_normal, resVs, resV, oneOf, Option.isNone_none, Option.isNone_some, runNilck, runFieldAddr, asPtr, runUn, asB, capsOf, Bool.not_true, Bool.not_false, beq_self_eq_true, b_tf, b_ft, cells_agg, cells_int, cells_bool, cells_str, cells_ptr, cells_slice, cells_map, Nat.zero_add, Nat.add_zero, and_self, and_true, true_and, List.getElem?_set, R.len, R.t7, R.t9, R.sl.len, arith, iop, b1] at hE2
    refine ⟨_, m, B, hE.trans hE2.symm, { box := R.box, sl := R.sl, slt := R.slt, len := ?_, t1 := ?_, t5 := ?_, t7 := ?_, t8 := ?_, t9 := ?_ }⟩ <;>
      simp -implicitDefEqProofs only [X_seq, X_region, X_cond, X_block, Exec_ret, Exec_skip, Exec_exit, X_cons, X_nil, opsK_some, guardK_true, guardK_false, wanted_none, wanted_some, stepOp, AOp.run, aval, avals, avalO, aparts, plain, putT, runBox, runBuildSlice, List.length_cons, List.length_nil, List.cons_append, List.nil_append, List.replicate_succ, List.replicate_zero, List.length_replicate, Nat.reduceAdd, Nat.reduceSub, Nat.reduceMul, Nat.reduceLT, Nat.reduceLeDiff, Nat.reduceEqDiff, if_true, if_false, reduceIte, Bool.false_eq_true, Bool.true_eq_false, Option.bind_some, Option.map_some, Option.getD_some, List.set_cons_succ, List.set_cons_zero, List.getElem?_cons_succ, List.getElem?_cons_zero, List.length_set, List.getElem?_toArray, runEqNil, nilKind, bothNil, thenC_normal, thenC_ret, thenC_exit, condK_true, condK_false, mapN_some, mapB_normal, mapB_ret, mapB_exit, leave_ret, leave_normal, resVs, resV, oneOf, Option.isNone_none, Option.isNone_some, runNilck, runFieldAddr, asPtr, runUn, asB, capsOf, Bool.not_true, Bool.not_false, beq_self_eq_true, b_tf, b_ft, cells_agg, cells_int, cells_bool, cells_str, cells_ptr, cells_slice, cells_map, Nat.zero_add, Nat.add_zero, and_self, and_true, true_and, List.getElem?_set, R.len, R.t1, R.t5, R.t7, R.t8, R.t9]
  | succ d ih =>
    intro i ts m B hi R
    have hin : i < l.length := by omega
    have b1 : decide ((i : Int) < (l.length : Int)) = true := by simp; omega
    have hwr := wrap_succ (i := i) hin (by omega)
    have hrot : l.drop i ++ l.take i = l[i] :: (l.drop (i + 1) ++ l.take i) := by rw [List.drop_eq_getElem_cons hin]; rfl
    have hmem : l[i] ∈ l := List.getElem_mem hin
    have hrnd : (l.drop i ++ l.take i).Nodup := (List.perm_append_comm (l₁ := l.drop i) (l₂ := l.take i)).nodup_iff.2 (by rw [List.take_append_drop]; exact hnd)
    have hrl : (l.drop i ++ l.take i).length = l.length := by rw [List.length_append, List.length_drop, List.length_take]; omega
    obtain ⟨m1, p1, B', p2, p3, p4⟩ := (pick_ok R.box hrnd (by omega) R.sl (fun b hb => (R.slt b hb).1) (by omega)).2 l[i] (by rw [hrot, List.find?_cons]; simp [hmem])
    have hnext : (l.drop i ++ l.take i).erase l[i] ++ [l[i]] = l.drop (i + 1) ++ l.take (i + 1) := by
      rw [hrot, List.erase_cons_head, List.append_assoc, List.take_add_one, List.getElem?_eq_getElem hin]; rfl
    rw [hnext] at p2
    have hm1 := p3.next
    obtain ⟨b, off, hq1, hq2⟩ := R.sl.at .i64 (List.getElem?_eq_getElem hin)
    rw [isize] at hq1
    have sl1 := R.sl.upd p3 R.slt
    have hld := (hq2 m1 sl1).2 0 (.int .i64 l[i]) rfl
    rw [Nat.add_zero] at hld
    have hne : (l[i] != l[i]) = false := by simp
    have hround : ∃ ts', Exec S tab fn9_l1 ts m = some (.normal, ts', m1) ∧ TpR turns q av l t (i + 1) ts' m1 B' := by
      obtain ⟨E, hE⟩ : ∃ E, Exec S tab fn9_l1 ts m = E := ⟨_, rfl⟩
      have hE2 := hE
      simp -implicitDefEqProofs only [fn9_l1, X_seq, X_region, X_cond, X_block, Exec_ret, Exec_skip, Exec_exit, X_cons, X_nil, opsK_some, guardK_true, guardK_false, wanted_none, wanted_some, stepOp, AOp.run, aval, avals, avalO, aparts, plain, putT, runBox, runBuildSlice, List.length_cons, List.length_nil, List.cons_append, List.nil_append, List.replicate_succ, List.replicate_zero, List.length_replicate, Nat.reduceAdd, Nat.reduceSub, Nat.reduceMul, Nat.reduceLT, Nat.reduceLeDiff, Nat.reduceEqDiff, if_true, if_false, reduceIte, Bool.false_eq_true, Bool.true_eq_false, Option.bind_some, Option.map_some, Option.getD_some, List.set_cons_succ, List.set_cons_zero, List.getElem?_cons_succ, List.getElem?_cons_zero, List.length_set, List.getElem?_toArray, runEqNil, nilKind, bothNil, thenC_normal, thenC_ret, thenC_exit, condK_true, condK_false, mapN_some, mapB_normal, mapB_ret, mapB_exit, leave_ret, leave_normal, resVs, resV, oneOf, Option.isNone_none, Option.isNone_some, runNilck, runFieldAddr, asPtr, runUn, asB, capsOf, Bool.not_true, Bool.not_false, beq_self_eq_true, b_tf, b_ft, cells_agg, cells_int, cells_bool, cells_str, cells_ptr, cells_slice, cells_map, Nat.zero_add, Nat.add_zero, and_self, and_true, true_and, List.getElem?_set, R.len, R.t5, R.t7, R.t9, R.sl.len, arith, iop, b1, p1, runExtract, hq1, hld, hne, hwr] at hE2
      refine ⟨_, hE.trans hE2.symm, { box := p2, sl := sl1, slt := fun b hb => ⟨by have := (R.slt b hb).1; omega, fun hb' => (p4 b hb').elim (R.slt b hb).2 (fun h => by have := (R.slt b hb).1; omega)⟩, len := ?_, t1 := ?_, t5 := ?_, t7 := ?_, t8 := ?_, t9 := ?_ }⟩ <;>
        simp -implicitDefEqProofs only [X_seq, X_region, X_cond, X_block, Exec_ret, Exec_skip, Exec_exit, X_cons, X_nil, opsK_some, guardK_true, guardK_false, wanted_none, wanted_some, stepOp, AOp.run, aval, avals, avalO, aparts, plain, putT, runBox, runBuildSlice, List.length_cons, List.length_nil, List.cons_append, List.nil_append, List.replicate_succ, List.replicate_zero, List.length_replicate, Nat.reduceAdd, Nat.reduceSub, Nat.reduceMul, Nat.reduceLT, Nat.reduceLeDiff, Nat.reduceEqDiff, if_true, if_false, reduceIte, Bool.false_eq_true, Bool.true_eq_false, Option.bind_some, Option.map_some, Option.getD_some, List.set_cons_succ, List.set_cons_zero, List.getElem?_cons_succ, List.getElem?_cons_zero, List.length_set, List.getElem?_toArray, runEqNil, nilKind, bothNil, thenC_normal, thenC_ret, thenC_exit, condK_true, condK_false, mapN_some, mapB_normal, mapB_ret, mapB_exit, leave_ret, leave_normal, resVs, resV, oneOf, Option.isNone_none, Option.isNone_some, runNilck, runFieldAddr, asPtr, runUn, asB, capsOf, Bool.not_true, Bool.not_false, beq_self_eq_true, b_tf, b_ft, cells_agg, cells_int, cells_bool, cells_str, cells_ptr, cells_slice, cells_map, Nat.zero_add, Nat.add_zero, and_self, and_true, true_and, List.getElem?_set, R.len, R.t1, R.t5, R.t7, R.t8, R.t9]
    obtain ⟨ts', hr1, hr2⟩ := hround
    obtain ⟨ts'', m'', B'', g1, g2⟩ := ih (i + 1) ts' m1 B' (by omega) hr2
    exact ⟨ts'', m'', B'', by rw [X_loop, hr1, thenC_normal]; exact g1, g2⟩

/-- The head of a turn. -/
structure TtR (turns : Int) (q av : Value) (l : List Int) (t : Nat) (ts : List Value) (m : Mem) (B : List Nat) : Prop where
  len : ts.length = 78
  t1 : ts[1]? = some (.int .i64 turns)
  t5 : ts[5]? = some q
  t7 : ts[7]? = some av
  t8 : ts[8]? = some (.int .i64 t)
  box : QAt m q B l
  sl : TSl encI m av l
  slt : ∀ b ∈ blkOf av, b < m.next ∧ b ∉ B

theorem tt_loop (turns : Int) (q av : Value) (l : List Int) (hnd : l.Nodup) (hl : l.length ≤ 50) (n : Nat) (hn : (IntKind.u64.wrap turns).tmod 4 = n) (hn4 : n < 4) : ∀ (d t : Nat) (ts : List Value) (m : Mem) (B : List Nat), t + d = n → TtR turns q av l t ts m B →
    ∃ ts' m' B', Exec S tab (.loop fn9_l2) ts m = some (.exit 2, ts', m') ∧ TtR turns q av l n ts' m' B' := by
  have hz : ¬ ((4 : Int) = 0) := by omega
  have hwn : IntKind.i64.wrap (n : Int) = (n : Int) := wrap_in (by omega) (by omega)
  intro d
  induction d with
  | zero =>
    intro t ts m B hi R
    obtain rfl : t = n := by omega
    have b1 : decide ((t : Int) < (t : Int)) = false := by simp
    obtain ⟨E, hE⟩ : ∃ E, Exec S tab (.loop fn9_l2) ts m = E := ⟨_, rfl⟩
    have hE2 := hE
    rw [X_loop] at hE2
    simp -implicitDefEqProofs only [fn9_l2, X_seq, X_region, X_cond, X_block, Exec_ret, Exec_skip, Exec_exit, X_cons, X_nil, opsK_some, guardK_true, guardK_false, wanted_none, wanted_some, stepOp, AOp.run, aval, avals, avalO, aparts, plain, putT, runBox, runBuildSlice, List.length_cons, List.length_nil, List.cons_append, List.nil_append, List.replicate_succ, List.replicate_zero, List.length_replicate, Nat.reduceAdd, Nat.reduceSub, Nat.reduceMul, Nat.reduceLT, Nat.reduceLeDiff, Nat.reduceEqDiff, if_true, if_false, reduceIte, Bool.false_eq_true, Bool.true_eq_false, Option.bind_some, Option.map_some, Option.getD_some, List.set_cons_succ, List.set_cons_zero, List.getElem?_cons_succ, List.getElem?_cons_zero, List.length_set, List.getElem?_toArray, runEqNil, nilKind, bothNil, thenC_normal, thenC_ret, thenC_exit, condK_true, condK_false, mapN_some, mapB_normal, mapB_ret, mapB_exit, leave_ret, leave_normal, resVs, resV, oneOf, Option.isNone_none, Option.isNone_some, runNilck, runFieldAddr, asPtr, runUn, asB, capsOf, Bool.not_true, Bool.not_false, beq_self_eq_true, b_tf, b_ft, cells_agg, cells_int, cells_bool, cells_str, cells_ptr, cells_slice, cells_map, Nat.zero_add, Nat.add_zero, and_self, and_true, true_and, List.getElem?_set, R.len, R.t1, R.t8, runConv, arith, iop, hn, hz, hwn, b1] at hE2
    refine ⟨_, m, B, hE.trans hE2.symm, { box := R.box, sl := R.sl, slt := R.slt, len := ?_, t1 := ?_, t5 := ?_, t7 := ?_, t8 := ?_ }⟩ <;>
      simp -implicitDefEqProofs only [X_seq, X_region, X_cond, X_block, Exec_ret, Exec_skip, Exec_exit, X_cons, X_nil, opsK_some, guardK_true, guardK_false, wanted_none, wanted_some, stepOp, AOp.run, aval, avals, avalO, aparts, plain, putT, runBox, runBuildSlice, List.length_cons, List.length_nil, List.cons_append, List.nil_append, List.replicate_succ, List.replicate_zero, List.length_replicate, Nat.reduceAdd, Nat.reduceSub, Nat.reduceMul, Nat.reduceLT, Nat.reduceLeDiff, Nat.reduceEqDiff, if_true, if_false, reduceIte, Bool.false_eq_true, Bool.true_eq_false, Option.bind_some, Option.map_some, Option.getD_some, List.set_cons_succ, List.set_cons_zero, List.getElem?_cons_succ, List.getElem?_cons_zero, List.length_set, List.getElem?_toArray, runEqNil, nilKind, bothNil, thenC_normal, thenC_ret, thenC_exit, condK_true, condK_false, mapN_some, mapB_normal, mapB_ret, mapB_exit, leave_ret, leave_normal, resVs, resV, oneOf, Option.isNone_none, Option.isNone_some, runNilck, runFieldAddr, asPtr, runUn, asB, capsOf, Bool.not_true, Bool.not_false, beq_self_eq_true, b_tf, b_ft, cells_agg, cells_int, cells_bool, cells_str, cells_ptr, cells_slice, cells_map, Nat.zero_add, Nat.add_zero, and_self, and_true, true_and, List.getElem?_set, R.len, R.t1, R.t5, R.t7, R.t8]
  | succ d ih =>
    intro t ts m B hi R
    have b1 : decide ((t : Int) < (n : Int)) = true := by simp; omega
    have hwr := wrap_succ (i := t) (n := 4) (by omega) (by omega)
    have hround : ∃ ts' m' B', Exec S tab fn9_l2 ts m = some (.normal, ts', m') ∧ TtR turns q av l (t + 1) ts' m' B' := by
      obtain ⟨ts1, m1, B1, h1, R1⟩ := tp_loop turns q av l hnd hl t l.length 0 (((((((ts.set 35 (.int .i64 t)).set 36 (.int .i64 turns)).set 37 (.int .u64 (IntKind.u64.wrap turns))).set 38 (.int .u64 n)).set 39 (.int .i64 n)).set 40 (.bool true)).set 9 (.int .i64 0)) m B (by omega)
        ⟨by simp [R.len], by simp -implicitDefEqProofs only [X_seq, X_region, X_cond, X_block, Exec_ret, Exec_skip, Exec_exit, X_cons, X_nil, opsK_some, guardK_true, guardK_false, wanted_none, wanted_some, stepOp, AOp.run, aval, avals, avalO, aparts, plain, putT, runBox, runBuildSlice, List.length_cons, List.length_nil, List.cons_append, List.nil_append, List.replicate_succ, List.replicate_zero, List.length_replicate, Nat.reduceAdd, Nat.reduceSub, Nat.reduceMul, Nat.reduceLT, Nat.reduceLeDiff, Nat.reduceEqDiff, if_true, if_false, reduceIte, Bool.false_eq_true, Bool.true_eq_false, Option.bind_some, Option.map_some, Option.getD_some, List.set_cons_succ, List.set_cons_zero, List.getElem?_cons_succ, List.getElem?_cons_zero, List.length_set, List.getElem?_toArray, runEqNil, nilKind, bothNil, thenC_normal, thenC_ret, thenC_exit, condK_true, condK_false, mapN_some, mapB_normal, mapB_ret, mapB_exit, leave_ret, leave_normal, resVs, resV, oneOf, Option.isNone_none, Option.isNone_some, runNilck, runFieldAddr, asPtr, runUn, asB, capsOf, Bool.not_true, Bool.not_false, beq_self_eq_true, b_tf, b_ft, cells_agg, cells_int, cells_bool, cells_str, cells_ptr, cells_slice, cells_map, Nat.zero_add, Nat.add_zero, and_self, and_true, true_and, List.getElem?_set, R.len, R.t1], by simp -implicitDefEqProofs only [X_seq, X_region, X_cond, X_block, Exec_ret, Exec_skip, Exec_exit, X_cons, X_nil, opsK_some, guardK_true, guardK_false, wanted_none, wanted_some, stepOp, AOp.run, aval, avals, avalO, aparts, plain, putT, runBox, runBuildSlice, List.length_cons, List.length_nil, List.cons_append, List.nil_append, List.replicate_succ, List.replicate_zero, List.length_replicate, Nat.reduceAdd, Nat.reduceSub, Nat.reduceMul, Nat.reduceLT, Nat.reduceLeDiff, Nat.reduceEqDiff, if_true, if_false, reduceIte, Bool.false_eq_true, Bool.true_eq_false, Option.bind_some, Option.map_some, Option.getD_some, List.set_cons_succ, List.set_cons_zero, List.getElem?_cons_succ, List.getElem?_cons_zero, List.length_set, List.getElem?_toArray, runEqNil, nilKind, bothNil, thenC_normal, thenC_ret, thenC_exit, condK_true, condK_false, mapN_some, mapB_normal, mapB_ret, mapB_exit, leave_ret, leave_normal, resVs, resV, oneOf, Option.isNone_none, Option.isNone_some, runNilck, runFieldAddr, asPtr, runUn, asB, capsOf, Bool.not_true, Bool.not_false, beq_self_eq_true, b_tf, b_ft, cells_agg, cells_int, cells_bool, cells_str, cells_ptr, cells_slice, cells_map, Nat.zero_add, Nat.add_zero, and_self, and_true, true_and, List.getElem?_set, R.len, R.t5], by simp -implicitDefEqProofs only [X_seq, X_region, X_cond, X_block, Exec_ret, Exec_skip, Exec_exit, X_cons, X_nil, opsK_some, guardK_true, guardK_false, wanted_none, wanted_some, stepOp, AOp.run, aval, avals, avalO, aparts, plain, putT, runBox, runBuildSlice, List.length_cons, List.length_nil, List.cons_append, List.nil_append, List.replicate_succ, List.replicate_zero, List.length_replicate, Nat.reduceAdd, Nat.reduceSub, Nat.reduceMul, Nat.reduceLT, Nat.reduceLeDiff, Nat.reduceEqDiff, if_true, if_false, reduceIte, Bool.false_eq_true, Bool.true_eq_false, Option.bind_some, Option.map_some, Option.getD_some, List.set_cons_succ, List.set_cons_zero, List.getElem?_cons_succ, List.getElem?_cons_zero, List.length_set, List.getElem?_toArray, runEqNil, nilKind, bothNil, thenC_normal, thenC_ret, thenC_exit, condK_true, condK_false, mapN_some, mapB_normal, mapB_ret, mapB_exit, leave_ret, leave_normal, resVs, resV, oneOf, Option.isNone_none, Option.isNone_some, runNilck, runFieldAddr, asPtr, runUn, asB, capsOf, Bool.not_true, Bool.not_false, beq_self_eq_true, b_tf, b_ft, cells_agg, cells_int, cells_bool, cells_str, cells_ptr, cells_slice, cells_map, Nat.zero_add, Nat.add_zero, and_self, and_true, true_and, List.getElem?_set, R.len, R.t7], by simp -implicitDefEqProofs only [X_seq, X_region, X_cond, X_block, Exec_ret, Exec_skip, Exec_exit, X_cons, X_nil, opsK_some, guardK_true, guardK_false, wanted_none, wanted_some, stepOp, AOp.run, aval, avals, avalO, aparts, plain, putT, runBox, runBuildSlice, List.length_cons, List.length_nil, List.cons_append, List.nil_append, List.replicate_succ, List.replicate_zero, List.length_replicate, Nat.reduceAdd, Nat.reduceSub, Nat.reduceMul, Nat.reduceLT, Nat.reduceLeDiff, Nat.reduceEqDiff, if_true, if_false, reduceIte, Bool.false_eq_true, Bool.true_eq_false, Option.bind_some, Option.map_some, Option.getD_some, List.set_cons_succ, List.set_cons_zero, List.getElem?_cons_succ, List.getElem?_cons_zero, List.length_set, List.getElem?_toArray, runEqNil, nilKind, bothNil, thenC_normal, thenC_ret, thenC_exit, condK_true, condK_false, mapN_some, mapB_normal, mapB_ret, mapB_exit, leave_ret, leave_normal, resVs, resV, oneOf, Option.isNone_none, Option.isNone_some, runNilck, runFieldAddr, asPtr, runUn, asB, capsOf, Bool.not_true, Bool.not_false, beq_self_eq_true, b_tf, b_ft, cells_agg, cells_int, cells_bool, cells_str, cells_ptr, cells_slice, cells_map, Nat.zero_add, Nat.add_zero, and_self, and_true, true_and, List.getElem?_set, R.len, R.t8], by simp -implicitDefEqProofs only [X_seq, X_region, X_cond, X_block, Exec_ret, Exec_skip, Exec_exit, X_cons, X_nil, opsK_some, guardK_true, guardK_false, wanted_none, wanted_some, stepOp, AOp.run, aval, avals, avalO, aparts, plain, putT, runBox, runBuildSlice, List.length_cons, List.length_nil, List.cons_append, List.nil_append, List.replicate_succ, List.replicate_zero, List.length_replicate, Nat.reduceAdd, Nat.reduceSub, Nat.reduceMul, Nat.reduceLT, Nat.reduceLeDiff, Nat.reduceEqDiff, if_true, if_false, reduceIte, Bool.false_eq_true, Bool.true_eq_false, Option.bind_some, Option.map_some, Option.getD_some, List.set_cons_succ, List.set_cons_zero, List.getElem?_cons_succ, List.getElem?_cons_zero, List.length_set, List.getElem?_toArray, runEqNil, nilKind, bothNil, thenC_normal, thenC_ret, thenC_exit, condK_true, condK_false, mapN_some, mapB_normal, mapB_ret, mapB_exit, leave_ret, leave_normal, resVs, resV, oneOf, Option.isNone_none, Option.isNone_some, runNilck, runFieldAddr, asPtr, runUn, asB, capsOf, Bool.not_true, Bool.not_false, beq_self_eq_true, b_tf, b_ft, cells_agg, cells_int, cells_bool, cells_str, cells_ptr, cells_slice, cells_map, Nat.zero_add, Nat.add_zero, and_self, and_true, true_and, List.getElem?_set, R.len]; rfl, by simpa using R.box, R.sl, R.slt⟩
      have hbox := R1.box
      rw [List.drop_length, List.take_length, List.nil_append] at hbox
      obtain ⟨E, hE⟩ : ∃ E, Exec S tab fn9_l2 ts m = E := ⟨_, rfl⟩
      have hE2 := hE
      simp -implicitDefEqProofs only [fn9_l2, X_seq, X_region, X_cond, X_block, Exec_ret, Exec_skip, Exec_exit, X_cons, X_nil, opsK_some, guardK_true, guardK_false, wanted_none, wanted_some, stepOp, AOp.run, aval, avals, avalO, aparts, plain, putT, runBox, runBuildSlice, List.length_cons, List.length_nil, List.cons_append, List.nil_append, List.replicate_succ, List.replicate_zero, List.length_replicate, Nat.reduceAdd, Nat.reduceSub, Nat.reduceMul, Nat.reduceLT, Nat.reduceLeDiff, Nat.reduceEqDiff, if_true, if_false, reduceIte, Bool.false_eq_true, Bool.true_eq_false, Option.bind_some, Option.map_some, Option.getD_some, List.set_cons_succ, List.set_cons_zero, List.getElem?_cons_succ, List.getElem?_cons_zero, List.length_set, List.getElem?_toArray, runEqNil, nilKind, bothNil, thenC_normal, thenC_ret, thenC_exit, condK_true, condK_false, mapN_some, mapB_normal, mapB_ret, mapB_exit, leave_ret, leave_normal, resVs, resV, oneOf, Option.isNone_none, Option.isNone_some, runNilck, runFieldAddr, asPtr, runUn, asB, capsOf, Bool.not_true, Bool.not_false, beq_self_eq_true, b_tf, b_ft, cells_agg, cells_int, cells_bool, cells_str, cells_ptr, cells_slice, cells_map, Nat.zero_add, Nat.add_zero, and_self, and_true, true_and, List.getElem?_set, R.len, R.t1, R.t8, runConv, arith, iop, hn, hz, hwn, b1, h1, R1.len, R1.t8, hwr] at hE2
      refine ⟨_, m1, B1, hE.trans hE2.symm, { box := hbox, sl := R1.sl, slt := R1.slt, len := ?_, t1 := ?_, t5 := ?_, t7 := ?_, t8 := ?_ }⟩ <;>
        simp -implicitDefEqProofs only [X_seq, X_region, X_cond, X_block, Exec_ret, Exec_skip, Exec_exit, X_cons, X_nil, opsK_some, guardK_true, guardK_false, wanted_none, wanted_some, stepOp, AOp.run, aval, avals, avalO, aparts, plain, putT, runBox, runBuildSlice, List.length_cons, List.length_nil, List.cons_append, List.nil_append, List.replicate_succ, List.replicate_zero, List.length_replicate, Nat.reduceAdd, Nat.reduceSub, Nat.reduceMul, Nat.reduceLT, Nat.reduceLeDiff, Nat.reduceEqDiff, if_true, if_false, reduceIte, Bool.false_eq_true, Bool.true_eq_false, Option.bind_some, Option.map_some, Option.getD_some, List.set_cons_succ, List.set_cons_zero, List.getElem?_cons_succ, List.getElem?_cons_zero, List.length_set, List.getElem?_toArray, runEqNil, nilKind, bothNil, thenC_normal, thenC_ret, thenC_exit, condK_true, condK_false, mapN_some, mapB_normal, mapB_ret, mapB_exit, leave_ret, leave_normal, resVs, resV, oneOf, Option.isNone_none, Option.isNone_some, runNilck, runFieldAddr, asPtr, runUn, asB, capsOf, Bool.not_true, Bool.not_false, beq_self_eq_true, b_tf, b_ft, cells_agg, cells_int, cells_bool, cells_str, cells_ptr, cells_slice, cells_map, Nat.zero_add, Nat.add_zero, and_self, and_true, true_and, List.getElem?_set, R1.len, R1.t1, R1.t5, R1.t7, R1.t8]
    obtain ⟨ts', m', B', hr1, hr2⟩ := hround
    obtain ⟨ts'', m'', B'', g1, g2⟩ := ih (t + 1) ts' m' B' (by omega) hr2
    exact ⟨ts'', m'', B'', by rw [X_loop, hr1, thenC_normal]; exact g1, g2⟩

theorem dutyTurns {m : Mem} {v : Value} {L : List Int} (turns : Int) (h : TSl encI m v L) (hb : ∀ b ∈ blkOf v, b < m.next) : ∃ m', Call S tab 9 [v, .int .i64 turns] m = some (.bool true, m') := by
  obtain ⟨q, m1, n1, n2, n3⟩ := qnew_ok m
  have hm1 := n3.next
  have hbn := n2.lt m.next (by simp)
  obtain ⟨ts1, m2, B, l, h1, R⟩ := tj_loop v (.int .i64 turns) q L (min L.length 50) rfl (min L.length 50) 0
    ([v, .int .i64 turns, undef, undef, .bool false, q, .int .i64 0, undef, undef, undef, undef, undef, undef, undef, .bool true, .bool false, q] ++ List.replicate 61 undef) m1 [m.next] [] (by omega)
    ⟨by simp, rfl, rfl, rfl, rfl, n2, by simp, by simp, h.upd n3 (fun b hb' => ⟨hb b hb', by simp⟩), fun b hb' => ⟨by have := hb b hb'; omega, by simp; have := hb b hb'; omega⟩⟩
  simp only [List.replicate_succ, List.replicate_zero, List.cons_append, List.nil_append] at h1
  have hl : l.length ≤ 50 := by have := R.ll; omega
  obtain ⟨av, m3, a1, a2, a3, a4⟩ := qall_ok R.box (by omega)
  have q3 := R.box.upd a3 (fun b _ hb => by simp at hb)
  have hBlt := R.box.lt
  obtain ⟨n, hn1, hn2⟩ := tmod_nat (wrap_u64_nonneg turns) (n := 4) (by omega)
  obtain ⟨ts2, m4, B', h2, R2⟩ := tt_loop turns q av l R.nd hl n hn1 hn2 n 0 ((((ts1.set 33 q).set 34 av).set 7 av).set 8 (.int .i64 0)) m3 B (by omega)
    ⟨by simp [R.len], by simp -implicitDefEqProofs only [X_seq, X_region, X_cond, X_block, Exec_ret, Exec_skip, Exec_exit, X_cons, X_nil, opsK_some, guardK_true, guardK_false, wanted_none, wanted_some, stepOp, AOp.run, aval, avals, avalO, aparts, plain, putT, runBox, runBuildSlice, List.length_cons, List.length_nil, List.cons_append, List.nil_append, List.replicate_succ, List.replicate_zero, List.length_replicate, Nat.reduceAdd, Nat.reduceSub, Nat.reduceMul, Nat.reduceLT, Nat.reduceLeDiff, Nat.reduceEqDiff, if_true, if_false, reduceIte, Bool.false_eq_true, Bool.true_eq_false, Option.bind_some, Option.map_some, Option.getD_some, List.set_cons_succ, List.set_cons_zero, List.getElem?_cons_succ, List.getElem?_cons_zero, List.length_set, List.getElem?_toArray, runEqNil, nilKind, bothNil, thenC_normal, thenC_ret, thenC_exit, condK_true, condK_false, mapN_some, mapB_normal, mapB_ret, mapB_exit, leave_ret, leave_normal, resVs, resV, oneOf, Option.isNone_none, Option.isNone_some, runNilck, runFieldAddr, asPtr, runUn, asB, capsOf, Bool.not_true, Bool.not_false, beq_self_eq_true, b_tf, b_ft, cells_agg, cells_int, cells_bool, cells_str, cells_ptr, cells_slice, cells_map, Nat.zero_add, Nat.add_zero, and_self, and_true, true_and, List.getElem?_set, R.len, R.t1], by simp -implicitDefEqProofs only [X_seq, X_region, X_cond, X_block, Exec_ret, Exec_skip, Exec_exit, X_cons, X_nil, opsK_some, guardK_true, guardK_false, wanted_none, wanted_some, stepOp, AOp.run, aval, avals, avalO, aparts, plain, putT, runBox, runBuildSlice, List.length_cons, List.length_nil, List.cons_append, List.nil_append, List.replicate_succ, List.replicate_zero, List.length_replicate, Nat.reduceAdd, Nat.reduceSub, Nat.reduceMul, Nat.reduceLT, Nat.reduceLeDiff, Nat.reduceEqDiff, if_true, if_false, reduceIte, Bool.false_eq_true, Bool.true_eq_false, Option.bind_some, Option.map_some, Option.getD_some, List.set_cons_succ, List.set_cons_zero, List.getElem?_cons_succ, List.getElem?_cons_zero, List.length_set, List.getElem?_toArray, runEqNil, nilKind, bothNil, thenC_normal, thenC_ret, thenC_exit, condK_true, condK_false, mapN_some, mapB_normal, mapB_ret, mapB_exit, leave_ret, leave_normal, resVs, resV, oneOf, Option.isNone_none, Option.isNone_some, runNilck, runFieldAddr, asPtr, runUn, asB, capsOf, Bool.not_true, Bool.not_false, beq_self_eq_true, b_tf, b_ft, cells_agg, cells_int, cells_bool, cells_str, cells_ptr, cells_slice, cells_map, Nat.zero_add, Nat.add_zero, and_self, and_true, true_and, List.getElem?_set, R.len, R.t5], by simp -implicitDefEqProofs only [X_seq, X_region, X_cond, X_block, Exec_ret, Exec_skip, Exec_exit, X_cons, X_nil, opsK_some, guardK_true, guardK_false, wanted_none, wanted_some, stepOp, AOp.run, aval, avals, avalO, aparts, plain, putT, runBox, runBuildSlice, List.length_cons, List.length_nil, List.cons_append, List.nil_append, List.replicate_succ, List.replicate_zero, List.length_replicate, Nat.reduceAdd, Nat.reduceSub, Nat.reduceMul, Nat.reduceLT, Nat.reduceLeDiff, Nat.reduceEqDiff, if_true, if_false, reduceIte, Bool.false_eq_true, Bool.true_eq_false, Option.bind_some, Option.map_some, Option.getD_some, List.set_cons_succ, List.set_cons_zero, List.getElem?_cons_succ, List.getElem?_cons_zero, List.length_set, List.getElem?_toArray, runEqNil, nilKind, bothNil, thenC_normal, thenC_ret, thenC_exit, condK_true, condK_false, mapN_some, mapB_normal, mapB_ret, mapB_exit, leave_ret, leave_normal, resVs, resV, oneOf, Option.isNone_none, Option.isNone_some, runNilck, runFieldAddr, asPtr, runUn, asB, capsOf, Bool.not_true, Bool.not_false, beq_self_eq_true, b_tf, b_ft, cells_agg, cells_int, cells_bool, cells_str, cells_ptr, cells_slice, cells_map, Nat.zero_add, Nat.add_zero, and_self, and_true, true_and, List.getElem?_set, R.len], by simp -implicitDefEqProofs only [X_seq, X_region, X_cond, X_block, Exec_ret, Exec_skip, Exec_exit, X_cons, X_nil, opsK_some, guardK_true, guardK_false, wanted_none, wanted_some, stepOp, AOp.run, aval, avals, avalO, aparts, plain, putT, runBox, runBuildSlice, List.length_cons, List.length_nil, List.cons_append, List.nil_append, List.replicate_succ, List.replicate_zero, List.length_replicate, Nat.reduceAdd, Nat.reduceSub, Nat.reduceMul, Nat.reduceLT, Nat.reduceLeDiff, Nat.reduceEqDiff, if_true, if_false, reduceIte, Bool.false_eq_true, Bool.true_eq_false, Option.bind_some, Option.map_some, Option.getD_some, List.set_cons_succ, List.set_cons_zero, List.getElem?_cons_succ, List.getElem?_cons_zero, List.length_set, List.getElem?_toArray, runEqNil, nilKind, bothNil, thenC_normal, thenC_ret, thenC_exit, condK_true, condK_false, mapN_some, mapB_normal, mapB_ret, mapB_exit, leave_ret, leave_normal, resVs, resV, oneOf, Option.isNone_none, Option.isNone_some, runNilck, runFieldAddr, asPtr, runUn, asB, capsOf, Bool.not_true, Bool.not_false, beq_self_eq_true, b_tf, b_ft, cells_agg, cells_int, cells_bool, cells_str, cells_ptr, cells_slice, cells_map, Nat.zero_add, Nat.add_zero, and_self, and_true, true_and, List.getElem?_set, R.len]; rfl, q3, a2, fun b hb => ⟨(a4 b hb).2, fun hb' => by have := (a4 b hb).1; have := hBlt b hb'; omega⟩⟩
  obtain ⟨m5, p1, p2, p3⟩ := (pick_ok R2.box R.nd (by omega) (TSl.nil m4) (fun b hb => by simp [blkOf] at hb) (by simp)).1 (by simp)
  obtain ⟨cv, m6, c1, c2, c3, c4⟩ := qall_ok p2 (by omega)
  have sl5 := R2.sl.upd p3 (fun b hb => ⟨(R2.slt b hb).1, by simp⟩)
  have hm5 := p3.next
  have sl6 := sl5.upd c3 (fun b hb => ⟨by have := (R2.slt b hb).1; omega, by simp⟩)
  have hsame := isame_ok c2 sl6 (by omega)
  refine ⟨m6, ?_⟩
  rw [eq9]
  simp -implicitDefEqProofs only [fn9, X_seq, X_region, X_cond, X_block, Exec_ret, Exec_skip, Exec_exit, X_cons, X_nil, opsK_some, guardK_true, guardK_false, wanted_none, wanted_some, stepOp, AOp.run, aval, avals, avalO, aparts, plain, putT, runBox, runBuildSlice, List.length_cons, List.length_nil, List.cons_append, List.nil_append, List.replicate_succ, List.replicate_zero, List.length_replicate, Nat.reduceAdd, Nat.reduceSub, Nat.reduceMul, Nat.reduceLT, Nat.reduceLeDiff, Nat.reduceEqDiff, if_true, if_false, reduceIte, Bool.false_eq_true, Bool.true_eq_false, Option.bind_some, Option.map_some, Option.getD_some, List.set_cons_succ, List.set_cons_zero, List.getElem?_cons_succ, List.getElem?_cons_zero, List.length_set, List.getElem?_toArray, runEqNil, nilKind, bothNil, thenC_normal, thenC_ret, thenC_exit, condK_true, condK_false, mapN_some, mapB_normal, mapB_ret, mapB_exit, leave_ret, leave_normal, resVs, resV, oneOf, Option.isNone_none, Option.isNone_some, runNilck, runFieldAddr, asPtr, runUn, asB, capsOf, Bool.not_true, Bool.not_false, beq_self_eq_true, b_tf, b_ft, cells_agg, cells_int, cells_bool, cells_str, cells_ptr, cells_slice, cells_map, Nat.zero_add, Nat.add_zero, and_self, and_true, true_and, eq22, n1, h1, List.getElem?_set, R.len, R.t1, R.t5, a1, h2, R2.len, R2.t5, R2.t7, p1, runExtract, c1, hsame]

end Go.Fx.Try
