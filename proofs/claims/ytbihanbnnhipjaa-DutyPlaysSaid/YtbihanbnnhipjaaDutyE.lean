/- Duty: Pick; two lists held against one another. -/
import Derived.Test.YtbihanbnnhipjaaDutyD
namespace Go.Fx.Try
open Go Go.Fx
set_option linter.unusedSimpArgs false
set_option linter.unusedVariables false

structure PkR (q fv av : Value) (n i : Nat) (ts : List Value) : Prop where
  len : ts.length = 26
  t0 : ts[0]? = some q
  t1 : ts[1]? = some fv
  t9 : ts[9]? = some av
  t10 : ts[10]? = some (.int .i64 n)
  t11 : ts[11]? = some (.int .i64 i)

/-- What Pick comes to. -/
def Picked (m : Mem) (q : Value) (B : List Nat) (l : List Int) (x : Int) (m' : Mem) : Prop :=
  ∃ B', QAt m' q B' (l.erase x ++ [x]) ∧ Upd B m m' ∧ ∀ b ∈ B', b ∈ B ∨ m.next ≤ b

theorem pick_loop {m : Mem} {q fv av : Value} {B : List Nat} {l fit : List Int} (hq : QAt m q B l) (hnd : l.Nodup) (hn : l.length ≤ 2 ^ 30) (hf : TSl encI m fv fit) (hfn : fit.length ≤ 2 ^ 60) (hav : TSl encI m av l) : ∀ (d i : Nat) (ts : List Value), i + d = l.length → PkR q fv av l.length i ts →
    ((l.drop i).find? (fun x => decide (x ∈ fit)) = none → ∃ ts', Exec S tab (.loop fn30_l0) ts m = some (.exit 0, ts', m) ∧ ts'.length = 26) ∧
    (∀ x, (l.drop i).find? (fun x => decide (x ∈ fit)) = some x → ∃ ts' m', Exec S tab (.loop fn30_l0) ts m = some (.ret, ts', m') ∧ ts'.length = 26 ∧ ts'[4]? = some (.int .i64 x) ∧ ts'[5]? = some (.bool true) ∧ Picked m q B l x m') := by
  intro d
  induction d with
  | zero =>
    intro i ts hi R
    obtain rfl : i = l.length := by omega
    have hlt : decide ((l.length : Int) < (l.length : Int)) = false := by simp
    rw [List.drop_length]
    refine ⟨fun _ => ?_, fun x h => by simp at h⟩
    obtain ⟨E, hE⟩ : ∃ E, Exec S tab (.loop fn30_l0) ts m = E := ⟨_, rfl⟩
    have hE2 := hE
    rw [X_loop] at hE2
    simp -implicitDefEqProofs only [fn30_l0, X_seq, X_region, X_cond, X_block, Exec_ret, Exec_skip, Exec_exit, X_cons, X_nil, opsK_some, guardK_true, guardK_false, wanted_none, wanted_some, stepOp, AOp.run, aval, avals, avalO, aparts, plain, putT, runBox, runBuildSlice, List.length_cons, List.length_nil, List.cons_append, List.nil_append, List.replicate_succ, List.replicate_zero, List.length_replicate, Nat.reduceAdd, Nat.reduceSub, Nat.reduceMul, Nat.reduceLT, Nat.reduceLeDiff, Nat.reduceEqDiff, if_true, if_false, reduceIte, Bool.false_eq_true, Bool.true_eq_false, Option.bind_some, Option.map_some, Option.getD_some, List.set_cons_succ, List.set_cons_zero, List.getElem?_cons_succ, List.getElem?_cons_zero, List.length_set, List.getElem?_toArray, runEqNil, nilKind, bothNil, thenC_normal, thenC_ret, thenC_exit, condK_true, condK_false, mapN_some, mapB_normal, mapB_ret, mapB_exit, leave_ret, leave_normal, resVs, resV, oneOf, Option.isNone_none, Option.isNone_some, runNilck, runFieldAddr, asPtr, runUn, asB, capsOf, Bool.not_true, Bool.not_false, beq_self_eq_true, b_tf, b_ft, cells_agg, cells_int, cells_bool, cells_str, cells_ptr, cells_slice, cells_map, Nat.zero_add, Nat.add_zero, and_self, and_true, true_and, List.getElem?_set, R.len, R.t10, R.t11, arith, iop, hlt] at hE2
    exact ⟨_, hE.trans hE2.symm, by simp -implicitDefEqProofs only [List.length_set, R.len]⟩
  | succ d ih =>
    intro i ts hi R
    have hin : i < l.length := by omega
    have hlt : decide ((i : Int) < (l.length : Int)) = true := by simp; omega
    obtain ⟨b, off, hq1, hq2⟩ := hav.at .i64 (List.getElem?_eq_getElem hin)
    rw [isize] at hq1
    have hld := (hq2 m hav).2 0 (.int .i64 l[i]) rfl
    rw [Nat.add_zero] at hld
    have hwr : IntKind.i64.wrap ((i : Int) + 1) = ((i + 1 : Nat) : Int) := by rw [wrap_in (by omega) (by omega)]; rfl
    have hdl : l.drop i = l[i] :: l.drop (i + 1) := List.drop_eq_getElem_cons hin
    have hcon := contains_ok l[i] hf hfn
    have hmem : l[i] ∈ l := List.getElem_mem hin
    rw [hdl, List.find?_cons]
    by_cases hc : l[i] ∈ fit
    · rw [show decide (l[i] ∈ fit) = true by simpa using hc] at hcon ⊢
      refine ⟨fun h => by simp at h, fun x hx => ?_⟩
      simp only [Option.some.injEq] at hx
      rw [hx] at hld hcon hmem
      obtain ⟨m1, l1, l2, l3⟩ := leave_ok x hq (by omega)
      have hel : (l.erase x).length ≤ l.length := List.length_erase_le
      obtain ⟨m2, B', j1, j2, j3, j4⟩ := join_ok x l2 (by omega)
      have hni : x ∉ l.erase x := fun h => by have := (hnd.mem_erase_iff).1 h; exact this.1 rfl
      rw [show (!decide (x ∈ l.erase x)) = true by simpa using hni] at j1
      rw [joined, if_neg hni] at j2
      have hm1 := l3.next
      obtain ⟨E, hE⟩ : ∃ E, Exec S tab (.loop fn30_l0) ts m = E := ⟨_, rfl⟩
      have hE2 := hE
      rw [X_loop] at hE2
      simp -implicitDefEqProofs only [fn30_l0, X_seq, X_region, X_cond, X_block, Exec_ret, Exec_skip, Exec_exit, X_cons, X_nil, opsK_some, guardK_true, guardK_false, wanted_none, wanted_some, stepOp, AOp.run, aval, avals, avalO, aparts, plain, putT, runBox, runBuildSlice, List.length_cons, List.length_nil, List.cons_append, List.nil_append, List.replicate_succ, List.replicate_zero, List.length_replicate, Nat.reduceAdd, Nat.reduceSub, Nat.reduceMul, Nat.reduceLT, Nat.reduceLeDiff, Nat.reduceEqDiff, if_true, if_false, reduceIte, Bool.false_eq_true, Bool.true_eq_false, Option.bind_some, Option.map_some, Option.getD_some, List.set_cons_succ, List.set_cons_zero, List.getElem?_cons_succ, List.getElem?_cons_zero, List.length_set, List.getElem?_toArray, runEqNil, nilKind, bothNil, thenC_normal, thenC_ret, thenC_exit, condK_true, condK_false, mapN_some, mapB_normal, mapB_ret, mapB_exit, leave_ret, leave_normal, resVs, resV, oneOf, Option.isNone_none, Option.isNone_some, runNilck, runFieldAddr, asPtr, runUn, asB, capsOf, Bool.not_true, Bool.not_false, beq_self_eq_true, b_tf, b_ft, cells_agg, cells_int, cells_bool, cells_str, cells_ptr, cells_slice, cells_map, Nat.zero_add, Nat.add_zero, and_self, and_true, true_and, List.getElem?_set, R.len, R.t0, R.t1, R.t9, R.t10, R.t11, arith, iop, hlt, hq1, hld, hcon, l1, j1] at hE2
      refine ⟨_, m2, hE.trans hE2.symm, by simp -implicitDefEqProofs only [List.length_set, R.len], by simp -implicitDefEqProofs only [X_seq, X_region, X_cond, X_block, Exec_ret, Exec_skip, Exec_exit, X_cons, X_nil, opsK_some, guardK_true, guardK_false, wanted_none, wanted_some, stepOp, AOp.run, aval, avals, avalO, aparts, plain, putT, runBox, runBuildSlice, List.length_cons, List.length_nil, List.cons_append, List.nil_append, List.replicate_succ, List.replicate_zero, List.length_replicate, Nat.reduceAdd, Nat.reduceSub, Nat.reduceMul, Nat.reduceLT, Nat.reduceLeDiff, Nat.reduceEqDiff, if_true, if_false, reduceIte, Bool.false_eq_true, Bool.true_eq_false, Option.bind_some, Option.map_some, Option.getD_some, List.set_cons_succ, List.set_cons_zero, List.getElem?_cons_succ, List.getElem?_cons_zero, List.length_set, List.getElem?_toArray, runEqNil, nilKind, bothNil, thenC_normal, thenC_ret, thenC_exit, condK_true, condK_false, mapN_some, mapB_normal, mapB_ret, mapB_exit, leave_ret, leave_normal, resVs, resV, oneOf, Option.isNone_none, Option.isNone_some, runNilck, runFieldAddr, asPtr, runUn, asB, capsOf, Bool.not_true, Bool.not_false, beq_self_eq_true, b_tf, b_ft, cells_agg, cells_int, cells_bool, cells_str, cells_ptr, cells_slice, cells_map, Nat.zero_add, Nat.add_zero, and_self, and_true, true_and, List.getElem?_set, R.len], by simp -implicitDefEqProofs only [X_seq, X_region, X_cond, X_block, Exec_ret, Exec_skip, Exec_exit, X_cons, X_nil, opsK_some, guardK_true, guardK_false, wanted_none, wanted_some, stepOp, AOp.run, aval, avals, avalO, aparts, plain, putT, runBox, runBuildSlice, List.length_cons, List.length_nil, List.cons_append, List.nil_append, List.replicate_succ, List.replicate_zero, List.length_replicate, Nat.reduceAdd, Nat.reduceSub, Nat.reduceMul, Nat.reduceLT, Nat.reduceLeDiff, Nat.reduceEqDiff, if_true, if_false, reduceIte, Bool.false_eq_true, Bool.true_eq_false, Option.bind_some, Option.map_some, Option.getD_some, List.set_cons_succ, List.set_cons_zero, List.getElem?_cons_succ, List.getElem?_cons_zero, List.length_set, List.getElem?_toArray, runEqNil, nilKind, bothNil, thenC_normal, thenC_ret, thenC_exit, condK_true, condK_false, mapN_some, mapB_normal, mapB_ret, mapB_exit, leave_ret, leave_normal, resVs, resV, oneOf, Option.isNone_none, Option.isNone_some, runNilck, runFieldAddr, asPtr, runUn, asB, capsOf, Bool.not_true, Bool.not_false, beq_self_eq_true, b_tf, b_ft, cells_agg, cells_int, cells_bool, cells_str, cells_ptr, cells_slice, cells_map, Nat.zero_add, Nat.add_zero, and_self, and_true, true_and, List.getElem?_set, R.len], B', j2, l3.trans (j3.mono (fun b hb _ => hb)), fun b hb => (j4 b hb).imp id (fun h => by omega)⟩
    · rw [show decide (l[i] ∈ fit) = false by simpa using hc] at hcon ⊢
      have hround : ∃ ts', Exec S tab fn30_l0 ts m = some (.normal, ts', m) ∧ PkR q fv av l.length (i + 1) ts' := by
        obtain ⟨E, hE⟩ : ∃ E, Exec S tab fn30_l0 ts m = E := ⟨_, rfl⟩
        have hE2 := hE
        simp -implicitDefEqProofs only [fn30_l0, X_seq, X_region, X_cond, X_block, Exec_ret, Exec_skip, Exec_exit, X_cons, X_nil, opsK_some, guardK_true, guardK_false, wanted_none, wanted_some, stepOp, AOp.run, aval, avals, avalO, aparts, plain, putT, runBox, runBuildSlice, List.length_cons, List.length_nil, List.cons_append, List.nil_append, List.replicate_succ, List.replicate_zero, List.length_replicate, Nat.reduceAdd, Nat.reduceSub, Nat.reduceMul, Nat.reduceLT, Nat.reduceLeDiff, Nat.reduceEqDiff, if_true, if_false, reduceIte, Bool.false_eq_true, Bool.true_eq_false, Option.bind_some, Option.map_some, Option.getD_some, List.set_cons_succ, List.set_cons_zero, List.getElem?_cons_succ, List.getElem?_cons_zero, List.length_set, List.getElem?_toArray, runEqNil, nilKind, bothNil, thenC_normal, thenC_ret, thenC_exit, condK_true, condK_false, mapN_some, mapB_normal, mapB_ret, mapB_exit, leave_ret, leave_normal, resVs, resV, oneOf, Option.isNone_none, Option.isNone_some, runNilck, runFieldAddr, asPtr, runUn, asB, capsOf, Bool.not_true, Bool.not_false, beq_self_eq_true, b_tf, b_ft, cells_agg, cells_int, cells_bool, cells_str, cells_ptr, cells_slice, cells_map, Nat.zero_add, Nat.add_zero, and_self, and_true, true_and, List.getElem?_set, R.len, R.t0, R.t1, R.t9, R.t10, R.t11, arith, iop, hlt, hq1, hld, hcon, hwr] at hE2
        refine ⟨_, hE.trans hE2.symm, { len := ?_, t0 := ?_, t1 := ?_, t9 := ?_, t10 := ?_, t11 := ?_ }⟩ <;>
          simp -implicitDefEqProofs only [X_seq, X_region, X_cond, X_block, Exec_ret, Exec_skip, Exec_exit, X_cons, X_nil, opsK_some, guardK_true, guardK_false, wanted_none, wanted_some, stepOp, AOp.run, aval, avals, avalO, aparts, plain, putT, runBox, runBuildSlice, List.length_cons, List.length_nil, List.cons_append, List.nil_append, List.replicate_succ, List.replicate_zero, List.length_replicate, Nat.reduceAdd, Nat.reduceSub, Nat.reduceMul, Nat.reduceLT, Nat.reduceLeDiff, Nat.reduceEqDiff, if_true, if_false, reduceIte, Bool.false_eq_true, Bool.true_eq_false, Option.bind_some, Option.map_some, Option.getD_some, List.set_cons_succ, List.set_cons_zero, List.getElem?_cons_succ, List.getElem?_cons_zero, List.length_set, List.getElem?_toArray, runEqNil, nilKind, bothNil, thenC_normal, thenC_ret, thenC_exit, condK_true, condK_false, mapN_some, mapB_normal, mapB_ret, mapB_exit, leave_ret, leave_normal, resVs, resV, oneOf, Option.isNone_none, Option.isNone_some, runNilck, runFieldAddr, asPtr, runUn, asB, capsOf, Bool.not_true, Bool.not_false, beq_self_eq_true, b_tf, b_ft, cells_agg, cells_int, cells_bool, cells_str, cells_ptr, cells_slice, cells_map, Nat.zero_add, Nat.add_zero, and_self, and_true, true_and, List.getElem?_set, R.len, R.t0, R.t1, R.t9, R.t10, R.t11]
      obtain ⟨ts', hr1, hr2⟩ := hround
      have := ih (i + 1) ts' (by omega) hr2
      rw [X_loop, hr1, thenC_normal]
      exact this

theorem pick_ok {m : Mem} {q fv : Value} {B : List Nat} {l fit : List Int} (hq : QAt m q B l) (hnd : l.Nodup) (hn : l.length ≤ 2 ^ 30) (hf : TSl encI m fv fit) (hfb : ∀ b ∈ blkOf fv, b < m.next) (hfn : fit.length ≤ 2 ^ 60) :
    (l.find? (fun x => decide (x ∈ fit)) = none → ∃ m', Call S tab 30 [q, fv] m = some (.tuple #[.int .i64 0, .bool false], m') ∧ QAt m' q B l ∧ Upd [] m m') ∧
    (∀ x, l.find? (fun x => decide (x ∈ fit)) = some x → ∃ m', Call S tab 30 [q, fv] m = some (.tuple #[.int .i64 x, .bool true], m') ∧ Picked m q B l x m') := by
  obtain ⟨av, m1, a1, a2, a3, a4⟩ := qall_ok hq (by omega)
  have hq1 := hq.upd a3 (fun b _ hb => by simp at hb)
  have hf1 := hf.upd a3 (fun b hb => ⟨hfb b hb, by simp⟩)
  have hm1 := a3.next
  obtain ⟨p1, p2⟩ := pick_loop hq1 hnd hn hf1 hfn a2 l.length 0 [q, fv, undef, undef, .int .i64 0, .bool false, undef, undef, q, av, .int .i64 l.length, .int .i64 0, undef, undef, undef, undef, undef, undef, undef, undef, undef, undef, undef, undef, undef, undef] (by omega) ⟨rfl, rfl, rfl, rfl, rfl, rfl⟩
  rw [List.drop_zero] at p1 p2
  constructor
  · intro h
    obtain ⟨ts, h1, h2⟩ := p1 h
    refine ⟨m1, ?_, hq1, a3⟩
    rw [eq30]
    simp -implicitDefEqProofs only [fn30, X_seq, X_region, X_cond, X_block, Exec_ret, Exec_skip, Exec_exit, X_cons, X_nil, opsK_some, guardK_true, guardK_false, wanted_none, wanted_some, stepOp, AOp.run, aval, avals, avalO, aparts, plain, putT, runBox, runBuildSlice, List.length_cons, List.length_nil, List.cons_append, List.nil_append, List.replicate_succ, List.replicate_zero, List.length_replicate, Nat.reduceAdd, Nat.reduceSub, Nat.reduceMul, Nat.reduceLT, Nat.reduceLeDiff, Nat.reduceEqDiff, if_true, if_false, reduceIte, Bool.false_eq_true, Bool.true_eq_false, Option.bind_some, Option.map_some, Option.getD_some, List.set_cons_succ, List.set_cons_zero, List.getElem?_cons_succ, List.getElem?_cons_zero, List.length_set, List.getElem?_toArray, runEqNil, nilKind, bothNil, thenC_normal, thenC_ret, thenC_exit, condK_true, condK_false, mapN_some, mapB_normal, mapB_ret, mapB_exit, leave_ret, leave_normal, resVs, resV, oneOf, Option.isNone_none, Option.isNone_some, runNilck, runFieldAddr, asPtr, runUn, asB, capsOf, Bool.not_true, Bool.not_false, beq_self_eq_true, b_tf, b_ft, cells_agg, cells_int, cells_bool, cells_str, cells_ptr, cells_slice, cells_map, Nat.zero_add, Nat.add_zero, and_self, and_true, true_and, a1, a2.len, h1, h2, List.getElem?_set]
  · intro x h
    obtain ⟨ts, m2, h1, h2, h3, h4, B', g1, g2, g3⟩ := p2 x h
    refine ⟨m2, ?_, B', g1, (a3.mono (fun b hb => by simp at hb)).trans g2, fun b hb => (g3 b hb).imp id (fun h => by omega)⟩
    rw [eq30]
    simp -implicitDefEqProofs only [fn30, X_seq, X_region, X_cond, X_block, Exec_ret, Exec_skip, Exec_exit, X_cons, X_nil, opsK_some, guardK_true, guardK_false, wanted_none, wanted_some, stepOp, AOp.run, aval, avals, avalO, aparts, plain, putT, runBox, runBuildSlice, List.length_cons, List.length_nil, List.cons_append, List.nil_append, List.replicate_succ, List.replicate_zero, List.length_replicate, Nat.reduceAdd, Nat.reduceSub, Nat.reduceMul, Nat.reduceLT, Nat.reduceLeDiff, Nat.reduceEqDiff, if_true, if_false, reduceIte, Bool.false_eq_true, Bool.true_eq_false, Option.bind_some, Option.map_some, Option.getD_some, List.set_cons_succ, List.set_cons_zero, List.getElem?_cons_succ, List.getElem?_cons_zero, List.length_set, List.getElem?_toArray, runEqNil, nilKind, bothNil, thenC_normal, thenC_ret, thenC_exit, condK_true, condK_false, mapN_some, mapB_normal, mapB_ret, mapB_exit, leave_ret, leave_normal, resVs, resV, oneOf, Option.isNone_none, Option.isNone_some, runNilck, runFieldAddr, asPtr, runUn, asB, capsOf, Bool.not_true, Bool.not_false, beq_self_eq_true, b_tf, b_ft, cells_agg, cells_int, cells_bool, cells_str, cells_ptr, cells_slice, cells_map, Nat.zero_add, Nat.add_zero, and_self, and_true, true_and, a1, a2.len, h1, h2, h3, h4, List.getElem?_set]

structure IsR (v w : Value) (i : Nat) (ts : List Value) : Prop where
  len : ts.length = 26
  t0 : ts[0]? = some v
  t1 : ts[1]? = some w
  t5 : ts[5]? = some (.int .i64 i)

theorem isame_loop {m : Mem} {v w : Value} {l : List Int} (hv : TSl encI m v l) (hw : TSl encI m w l) (hn : l.length ≤ 2 ^ 60) : ∀ (d i : Nat) (ts : List Value), i + d = l.length → IsR v w i ts →
    ∃ ts', Exec S tab (.loop fn32_l0) ts m = some (.exit 0, ts', m) ∧ ts'.length = 26 := by
  intro d
  induction d with
  | zero =>
    intro i ts hi R
    obtain rfl : i = l.length := by omega
    have hlt : decide ((l.length : Int) < (l.length : Int)) = false := by simp
    obtain ⟨E, hE⟩ : ∃ E, Exec S tab (.loop fn32_l0) ts m = E := ⟨_, rfl⟩
    have hE2 := hE
    rw [X_loop] at hE2
    simp -implicitDefEqProofs only [fn32_l0, X_seq, X_region, X_cond, X_block, Exec_ret, Exec_skip, Exec_exit, X_cons, X_nil, opsK_some, guardK_true, guardK_false, wanted_none, wanted_some, stepOp, AOp.run, aval, avals, avalO, aparts, plain, putT, runBox, runBuildSlice, List.length_cons, List.length_nil, List.cons_append, List.nil_append, List.replicate_succ, List.replicate_zero, List.length_replicate, Nat.reduceAdd, Nat.reduceSub, Nat.reduceMul, Nat.reduceLT, Nat.reduceLeDiff, Nat.reduceEqDiff, if_true, if_false, reduceIte, Bool.false_eq_true, Bool.true_eq_false, Option.bind_some, Option.map_some, Option.getD_some, List.set_cons_succ, List.set_cons_zero, List.getElem?_cons_succ, List.getElem?_cons_zero, List.length_set, List.getElem?_toArray, runEqNil, nilKind, bothNil, thenC_normal, thenC_ret, thenC_exit, condK_true, condK_false, mapN_some, mapB_normal, mapB_ret, mapB_exit, leave_ret, leave_normal, resVs, resV, oneOf, Option.isNone_none, Option.isNone_some, runNilck, runFieldAddr, asPtr, runUn, asB, capsOf, Bool.not_true, Bool.not_false, beq_self_eq_true, b_tf, b_ft, cells_agg, cells_int, cells_bool, cells_str, cells_ptr, cells_slice, cells_map, Nat.zero_add, Nat.add_zero, and_self, and_true, true_and, List.getElem?_set, R.len, R.t0, R.t5, hv.len, arith, iop, hlt] at hE2
    exact ⟨_, hE.trans hE2.symm, by simp -implicitDefEqProofs only [List.length_set, R.len]⟩
  | succ d ih =>
    intro i ts hi R
    have hin : i < l.length := by omega
    have hlt : decide ((i : Int) < (l.length : Int)) = true := by simp; omega
    obtain ⟨b, off, hq1, hq2⟩ := hv.at .i64 (List.getElem?_eq_getElem hin)
    obtain ⟨c, ogg, hp1, hp2⟩ := hw.at .i64 (List.getElem?_eq_getElem hin)
    rw [isize] at hq1 hp1
    have hld := (hq2 m hv).2 0 (.int .i64 l[i]) rfl
    have hld' := (hp2 m hw).2 0 (.int .i64 l[i]) rfl
    rw [Nat.add_zero] at hld hld'
    have hwr : IntKind.i64.wrap ((i : Int) + 1) = ((i + 1 : Nat) : Int) := by rw [wrap_in (by omega) (by omega)]; rfl
    have hne : (l[i] != l[i]) = false := by simp
    have hround : ∃ ts', Exec S tab fn32_l0 ts m = some (.normal, ts', m) ∧ IsR v w (i + 1) ts' := by
      obtain ⟨E, hE⟩ : ∃ E, Exec S tab fn32_l0 ts m = E := ⟨_, rfl⟩
      have hE2 := hE
      simp -implicitDefEqProofs only [fn32_l0, X_seq, X_region, X_cond, X_block, Exec_ret, Exec_skip, Exec_exit, X_cons, X_nil, opsK_some, guardK_true, guardK_false, wanted_none, wanted_some, stepOp, AOp.run, aval, avals, avalO, aparts, plain, putT, runBox, runBuildSlice, List.length_cons, List.length_nil, List.cons_append, List.nil_append, List.replicate_succ, List.replicate_zero, List.length_replicate, Nat.reduceAdd, Nat.reduceSub, Nat.reduceMul, Nat.reduceLT, Nat.reduceLeDiff, Nat.reduceEqDiff, if_true, if_false, reduceIte, Bool.false_eq_true, Bool.true_eq_false, Option.bind_some, Option.map_some, Option.getD_some, List.set_cons_succ, List.set_cons_zero, List.getElem?_cons_succ, List.getElem?_cons_zero, List.length_set, List.getElem?_toArray, runEqNil, nilKind, bothNil, thenC_normal, thenC_ret, thenC_exit, condK_true, condK_false, mapN_some, mapB_normal, mapB_ret, mapB_exit, leave_ret, leave_normal, resVs, resV, oneOf, Option.isNone_none, Option.isNone_some, runNilck, runFieldAddr, asPtr, runUn, asB, capsOf, Bool.not_true, Bool.not_false, beq_self_eq_true, b_tf, b_ft, cells_agg, cells_int, cells_bool, cells_str, cells_ptr, cells_slice, cells_map, Nat.zero_add, Nat.add_zero, and_self, and_true, true_and, List.getElem?_set, R.len, R.t0, R.t1, R.t5, hv.len, arith, iop, hlt, hq1, hld, hp1, hld', hne, hwr] at hE2
      refine ⟨_, hE.trans hE2.symm, { len := ?_, t0 := ?_, t1 := ?_, t5 := ?_ }⟩ <;>
        simp -implicitDefEqProofs only [X_seq, X_region, X_cond, X_block, Exec_ret, Exec_skip, Exec_exit, X_cons, X_nil, opsK_some, guardK_true, guardK_false, wanted_none, wanted_some, stepOp, AOp.run, aval, avals, avalO, aparts, plain, putT, runBox, runBuildSlice, List.length_cons, List.length_nil, List.cons_append, List.nil_append, List.replicate_succ, List.replicate_zero, List.length_replicate, Nat.reduceAdd, Nat.reduceSub, Nat.reduceMul, Nat.reduceLT, Nat.reduceLeDiff, Nat.reduceEqDiff, if_true, if_false, reduceIte, Bool.false_eq_true, Bool.true_eq_false, Option.bind_some, Option.map_some, Option.getD_some, List.set_cons_succ, List.set_cons_zero, List.getElem?_cons_succ, List.getElem?_cons_zero, List.length_set, List.getElem?_toArray, runEqNil, nilKind, bothNil, thenC_normal, thenC_ret, thenC_exit, condK_true, condK_false, mapN_some, mapB_normal, mapB_ret, mapB_exit, leave_ret, leave_normal, resVs, resV, oneOf, Option.isNone_none, Option.isNone_some, runNilck, runFieldAddr, asPtr, runUn, asB, capsOf, Bool.not_true, Bool.not_false, beq_self_eq_true, b_tf, b_ft, cells_agg, cells_int, cells_bool, cells_str, cells_ptr, cells_slice, cells_map, Nat.zero_add, Nat.add_zero, and_self, and_true, true_and, List.getElem?_set, R.len, R.t0, R.t1, R.t5]
    obtain ⟨ts', hr1, hr2⟩ := hround
    obtain ⟨ts'', g1, g2⟩ := ih (i + 1) ts' (by omega) hr2
    exact ⟨ts'', by rw [X_loop, hr1, thenC_normal]; exact g1, g2⟩

theorem isame_ok {m : Mem} {v w : Value} {l : List Int} (hv : TSl encI m v l) (hw : TSl encI m w l) (hn : l.length ≤ 2 ^ 60) : Call S tab 32 [v, w] m = some (.bool true, m) := by
  have b1 : ((l.length : Int) != (l.length : Int)) = false := by simp
  obtain ⟨ts, h1, h2⟩ := isame_loop hv hw hn l.length 0 [v, w, undef, undef, .bool false, .int .i64 0, v, .int .i64 l.length, w, .int .i64 l.length, .bool false, undef, undef, undef, undef, undef, undef, undef, undef, undef, undef, undef, undef, undef, undef, undef] (by omega) ⟨rfl, rfl, rfl, rfl⟩
  rw [eq32]
  simp -implicitDefEqProofs only [fn32, X_seq, X_region, X_cond, X_block, Exec_ret, Exec_skip, Exec_exit, X_cons, X_nil, opsK_some, guardK_true, guardK_false, wanted_none, wanted_some, stepOp, AOp.run, aval, avals, avalO, aparts, plain, putT, runBox, runBuildSlice, List.length_cons, List.length_nil, List.cons_append, List.nil_append, List.replicate_succ, List.replicate_zero, List.length_replicate, Nat.reduceAdd, Nat.reduceSub, Nat.reduceMul, Nat.reduceLT, Nat.reduceLeDiff, Nat.reduceEqDiff, if_true, if_false, reduceIte, Bool.false_eq_true, Bool.true_eq_false, Option.bind_some, Option.map_some, Option.getD_some, List.set_cons_succ, List.set_cons_zero, List.getElem?_cons_succ, List.getElem?_cons_zero, List.length_set, List.getElem?_toArray, runEqNil, nilKind, bothNil, thenC_normal, thenC_ret, thenC_exit, condK_true, condK_false, mapN_some, mapB_normal, mapB_ret, mapB_exit, leave_ret, leave_normal, resVs, resV, oneOf, Option.isNone_none, Option.isNone_some, runNilck, runFieldAddr, asPtr, runUn, asB, capsOf, Bool.not_true, Bool.not_false, beq_self_eq_true, b_tf, b_ft, cells_agg, cells_int, cells_bool, cells_str, cells_ptr, cells_slice, cells_map, Nat.zero_add, Nat.add_zero, and_self, and_true, true_and, hv.len, hw.len, arith, iop, b1, h1, h2, List.getElem?_set]

end Go.Fx.Try
