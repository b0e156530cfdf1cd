/- The law InboxOnce on the abstract machine. -/
import Derived.Test.YtbihanbnnhipjaaInboxW
namespace Go.Fx.Try
open Go Go.Fx
set_option linter.unusedSimpArgs false
set_option linter.unusedVariables false

/-- What was taken has the numbers from 1 on. -/
def Num (l : List Msg) : Prop := ∀ (i : Nat) (a : Msg), l[i]? = some a → a.seq = (i : Int) + 1

theorem num_took {taken : List Msg} {a : Msg} (h : Num taken) : Num (took taken a) := by
  unfold took
  split
  · rename_i hv
    have hs : a.seq = (taken.length : Int) + 1 := by
      unfold verd at hv
      split at hv
      · simp at hv
      · split at hv
        · simp at hv
        · split at hv
          · assumption
          · split at hv <;> simp at hv
    intro i b hb
    rcases Nat.lt_trichotomy i taken.length with hi | rfl | hi
    · rw [List.getElem?_append_left hi] at hb; exact h i b hb
    · rw [List.getElem?_append_right (Nat.le_refl _), Nat.sub_self] at hb
      simp at hb; subst hb; exact hs
    · rw [List.getElem?_eq_none (by simp; omega)] at hb; cases hb
  · exact h

structure OnR (l : Value) (L : List Msg) (p : Value) (i : Nat) (ts : List Value) (m : Mem) (B : List Nat) (taken : List Msg) (hist : List Nat) : Prop where
  len : ts.length = 65
  t0 : ts[0]? = some l
  t3 : ts[3]? = some p
  t4 : ts[4]? = some (.int .i64 i)
  box : BoxAt m p B taken hist
  sl : TSl encMsg m l L
  slt : ∀ b ∈ blkOf l, b < m.next ∧ b ∉ B
  hl : hist.length = i
  tl : taken.length ≤ i
  num : Num taken

theorem once_loop (l : Value) (L : List Msg) (p : Value) (hL : L.length ≤ 300) : ∀ (d i : Nat) (ts : List Value) (m : Mem) (B : List Nat) (taken : List Msg) (hist : List Nat), i + d = L.length → OnR l L p i ts m B taken hist →
    ∃ ts' m' B' taken' hist', Exec S tab (.loop fn4_l0) ts m = some (.exit 0, ts', m') ∧ OnR l L p L.length ts' m' B' taken' hist' := by
  intro d
  induction d with
  | zero =>
    intro i ts m B taken hist hi R
    obtain rfl : i = L.length := by omega
    have hlt : ¬ ((L.length : Int) < (L.length : Int)) := by omega
    obtain ⟨E, hE⟩ : ∃ E, Exec S tab (.loop fn4_l0) ts m = E := ⟨_, rfl⟩
    have hE2 := hE
    rw [X_loop] at hE2
    simp -implicitDefEqProofs only [fn4_l0, X_seq, X_region, X_cond, X_block, Exec_ret, Exec_skip, Exec_exit, X_cons, X_nil, opsK_some, guardK_true, guardK_false, wanted_none, wanted_some, stepOp, AOp.run, aval, avals, avalO, aparts, plain, putT, runBox, runBuildSlice, List.length_cons, List.length_nil, List.cons_append, List.nil_append, List.replicate_succ, List.replicate_zero, List.length_replicate, Nat.reduceAdd, Nat.reduceSub, Nat.reduceMul, Nat.reduceLT, Nat.reduceLeDiff, Nat.reduceEqDiff, if_true, if_false, reduceIte, Bool.false_eq_true, Bool.true_eq_false, Option.bind_some, Option.map_some, Option.getD_some, List.set_cons_succ, List.set_cons_zero, List.getElem?_cons_succ, List.getElem?_cons_zero, List.length_set, runEqNil, nilKind, bothNil, thenC_normal, thenC_ret, thenC_exit, condK_true, condK_false, mapN_some, mapB_normal, mapB_ret, mapB_exit, leave_ret, leave_normal, resVs, resV, oneOf, Option.isNone_none, Option.isNone_some, runNilck, runFieldAddr, asPtr, runUn, asB, capsOf, Bool.not_true, Bool.not_false, beq_self_eq_true, b_tf, b_ft, cells_agg, cells_int, cells_bool, cells_str, cells_ptr, cells_slice, cells_map, Nat.zero_add, Nat.add_zero, and_self, and_true, true_and, List.getElem?_set, R.len, R.t0, R.t4, R.sl.len, arith, iop, hlt, decide_false] at hE2
    refine ⟨_, m, B, taken, hist, hE.trans hE2.symm, { box := R.box, sl := R.sl, slt := R.slt, hl := R.hl, tl := R.tl, num := R.num, len := ?_, t0 := ?_, t3 := ?_, t4 := ?_ }⟩ <;>
      simp -implicitDefEqProofs only [X_seq, X_region, X_cond, X_block, Exec_ret, Exec_skip, Exec_exit, X_cons, X_nil, opsK_some, guardK_true, guardK_false, wanted_none, wanted_some, stepOp, AOp.run, aval, avals, avalO, aparts, plain, putT, runBox, runBuildSlice, List.length_cons, List.length_nil, List.cons_append, List.nil_append, List.replicate_succ, List.replicate_zero, List.length_replicate, Nat.reduceAdd, Nat.reduceSub, Nat.reduceMul, Nat.reduceLT, Nat.reduceLeDiff, Nat.reduceEqDiff, if_true, if_false, reduceIte, Bool.false_eq_true, Bool.true_eq_false, Option.bind_some, Option.map_some, Option.getD_some, List.set_cons_succ, List.set_cons_zero, List.getElem?_cons_succ, List.getElem?_cons_zero, List.length_set, runEqNil, nilKind, bothNil, thenC_normal, thenC_ret, thenC_exit, condK_true, condK_false, mapN_some, mapB_normal, mapB_ret, mapB_exit, leave_ret, leave_normal, resVs, resV, oneOf, Option.isNone_none, Option.isNone_some, runNilck, runFieldAddr, asPtr, runUn, asB, capsOf, Bool.not_true, Bool.not_false, beq_self_eq_true, b_tf, b_ft, cells_agg, cells_int, cells_bool, cells_str, cells_ptr, cells_slice, cells_map, Nat.zero_add, Nat.add_zero, and_self, and_true, true_and, List.getElem?_set, R.len, R.t0, R.t3, R.t4]
  | succ d ih =>
    intro i ts m B taken hist hi R
    have hin : i < L.length := by omega
    have hlt : (i : Int) < (L.length : Int) := by omega
    obtain ⟨qb, qo, hq1, hq2⟩ := R.sl.at .i64 (List.getElem?_eq_getElem hin)
    rw [esize] at hq1 hq2
    have hwr := wrap_succ (i := i) hin (by omega)
    generalize L[i] = a at hq2
    obtain ⟨was, m1, hw1, hw2, hw3, hw4⟩ := all_ok R.box (by have := R.tl; omega)
    have sl1 := R.sl.upd hw3 (fun b hb => ⟨(R.slt b hb).1, by simp⟩)
    have ld1 := (hq2 m1 sl1).1
    have box1 := R.box.upd hw3 (fun b _ hb => by simp at hb)
    obtain ⟨m2, B', hc16, box2, hu2, hB'⟩ := take_ok a box1 (by have := R.tl; omega) (by have := R.hl; omega)
    have hn1 := hw3.next
    have hn2 := hu2.next
    have hBlt := R.box.lt
    have hwB : ∀ b ∈ blkOf was, b ∉ B := fun b hb hb' => by have := hw4 b hb; have := hBlt b hb'; omega
    have was2 := hw2.upd hu2 hwB
    have sl2 := sl1.upd hu2 (fun b hb => ⟨by have := (R.slt b hb).1; omega, (R.slt b hb).2⟩)
    have htl2 : (took taken a).length ≤ i + 1 := by
      have := R.tl
      unfold took; split
      · simp; omega
      · omega
    obtain ⟨now, m3, ho1, ho2, ho3, ho4⟩ := all_ok box2 (by omega)
    have was3 := was2.upd ho3 (fun b _ hb => by simp at hb)
    have sl3 := sl2.upd ho3 (fun b hb => ⟨by have := (R.slt b hb).1; omega, by simp⟩)
    have ld3 := (hq2 m3 sl3).1
    have box3 := box2.upd ho3 (fun b _ hb => by simp at hb)
    have hn3 := ho3.next
    have hB'lt := box2.lt
    have hslB' : ∀ b ∈ blkOf l, b ∉ B' := fun b hb hb' => (hB' b hb').elim (R.slt b hb).2 (fun h => by have := (R.slt b hb).1; omega)
    have num' := num_took (a := a) R.num
    have htk : took taken a = if verd taken a = 1 then taken ++ [a] else taken := rfl
    simp only [Msg.agg] at hc16
    generalize hv : verd taken a = v at *
    have hround : ∃ ts' m', Exec S tab fn4_l0 ts m = some (.normal, ts', m') ∧ OnR l L p (i + 1) ts' m' B' (took taken a) (hist ++ [v]) := by
      by_cases h1 : v = 1
      · have b1 : ((v : Int) == 1) = true := by simp [h1]
        rw [if_pos h1] at htk
        have hu4 : Upd [] m3 (m3.add ⟨.cells (encMsg.cells a) 32, false, none⟩) := Upd.add _ _ _
        have was4 := was3.upd hu4 (fun b _ hb => by simp at hb)
        have now4 := ho2.upd hu4 (fun b _ hb => by simp at hb)
        have box4 := box3.upd hu4 (fun b _ hb => by simp at hb)
        have hg4 : (m3.add ⟨.cells (encMsg.cells a) 32, false, none⟩).get m3.next = some ⟨.cells (encMsg.cells a) 32, false, none⟩ := Mem.get_add_self ..
        have hn4 : (m3.add ⟨.cells (encMsg.cells a) 32, false, none⟩).next = m3.next + 1 := rfl
        have sl4 := sl3.upd hu4 (fun b hb => ⟨by have := (R.slt b hb).1; omega, by simp⟩)
        generalize hm4 : m3.add ⟨.cells (encMsg.cells a) 32, false, none⟩ = m4 at *
        obtain ⟨was', m5, ha1, ha2, ha3, ha4, ha5⟩ := was4.append (k := [a]) (eb := 56) (by simp) (by have := R.tl; simp; omega) (by have := R.tl; simp; omega)
        simp only [List.length_cons, List.length_nil, Nat.zero_add, encMsg.flat_one, esize] at ha1
        have hsrc : runSrc 6 (.slice (some ⟨m3.next, 0, none⟩) 1 1) m4 = some (1, encMsg.cells a) := by simp [runSrc, cellsAt_of_get hg4, encMsg.len a, esize, List.take_of_length_le]
        have hfill : afill [.int .i64 0, .int .i64 0, .int .i64 0, .int .i64 0, .int .i64 0, .string ⟨#[]⟩] [(0, 6, a.agg)] = some (encMsg.cells a) := afill_one rfl rfl
        simp only [Msg.agg] at hfill
        have now5 := now4.upd ha3 (fun b hb hb' => by have := ho4 b hb; have := hw2.lt b hb'; omega)
        have hwlt := hw2.lt
        have hwB' : ∀ b ∈ B', b ∉ blkOf was := fun b hb hb' => (hB' b hb).elim (hwB b hb') (fun h => by have := hwlt b hb'; omega)
        have box5 := box4.upd ha3 hwB'
        have hslw : ∀ b ∈ blkOf l, b ∉ blkOf was := fun b hb hb' => by have := hw4 b hb'; have := (R.slt b hb).1; omega
        have sl5 := sl4.upd ha3 (fun b hb => ⟨by have := (R.slt b hb).1; omega, hslw b hb⟩)
        have hsame := same_ok ha2.tsl now5.tsl (by have := R.tl; simp; omega)
        rw [htk, show decide (taken ++ [a] = taken ++ [a]) = true by simp] at hsame
        obtain ⟨E, hE⟩ : ∃ E, Exec S tab fn4_l0 ts m = E := ⟨_, rfl⟩
        have hE2 := hE
        simp -implicitDefEqProofs only [fn4_l0, X_seq, X_region, X_cond, X_block, Exec_ret, Exec_skip, Exec_exit, X_cons, X_nil, opsK_some, guardK_true, guardK_false, wanted_none, wanted_some, stepOp, AOp.run, aval, avals, avalO, aparts, plain, putT, runBox, runBuildSlice, List.length_cons, List.length_nil, List.cons_append, List.nil_append, List.replicate_succ, List.replicate_zero, List.length_replicate, Nat.reduceAdd, Nat.reduceSub, Nat.reduceMul, Nat.reduceLT, Nat.reduceLeDiff, Nat.reduceEqDiff, if_true, if_false, reduceIte, Bool.false_eq_true, Bool.true_eq_false, Option.bind_some, Option.map_some, Option.getD_some, List.set_cons_succ, List.set_cons_zero, List.getElem?_cons_succ, List.getElem?_cons_zero, List.length_set, runEqNil, nilKind, bothNil, thenC_normal, thenC_ret, thenC_exit, condK_true, condK_false, mapN_some, mapB_normal, mapB_ret, mapB_exit, leave_ret, leave_normal, resVs, resV, oneOf, Option.isNone_none, Option.isNone_some, runNilck, runFieldAddr, asPtr, runUn, asB, capsOf, Bool.not_true, Bool.not_false, beq_self_eq_true, b_tf, b_ft, cells_agg, cells_int, cells_bool, cells_str, cells_ptr, cells_slice, cells_map, Nat.zero_add, Nat.add_zero, and_self, and_true, true_and, List.getElem?_set, R.len, R.t0, R.t3, R.t4, R.sl.len, arith, iop, hlt, decide_true, hw1, hq1, ld1, hc16, ho1, b1, ld3, hfill, hm4, hsrc, ha1, hsame, hwr] at hE2
        refine ⟨_, m5, hE.trans hE2.symm, { box := box5, sl := sl5, slt := fun b hb => ⟨by have := (R.slt b hb).1; omega, hslB' b hb⟩, hl := by simp [R.hl], tl := htl2, num := num', len := ?_, t0 := ?_, t3 := ?_, t4 := ?_ }⟩ <;>
          simp -implicitDefEqProofs only [X_seq, X_region, X_cond, X_block, Exec_ret, Exec_skip, Exec_exit, X_cons, X_nil, opsK_some, guardK_true, guardK_false, wanted_none, wanted_some, stepOp, AOp.run, aval, avals, avalO, aparts, plain, putT, runBox, runBuildSlice, List.length_cons, List.length_nil, List.cons_append, List.nil_append, List.replicate_succ, List.replicate_zero, List.length_replicate, Nat.reduceAdd, Nat.reduceSub, Nat.reduceMul, Nat.reduceLT, Nat.reduceLeDiff, Nat.reduceEqDiff, if_true, if_false, reduceIte, Bool.false_eq_true, Bool.true_eq_false, Option.bind_some, Option.map_some, Option.getD_some, List.set_cons_succ, List.set_cons_zero, List.getElem?_cons_succ, List.getElem?_cons_zero, List.length_set, runEqNil, nilKind, bothNil, thenC_normal, thenC_ret, thenC_exit, condK_true, condK_false, mapN_some, mapB_normal, mapB_ret, mapB_exit, leave_ret, leave_normal, resVs, resV, oneOf, Option.isNone_none, Option.isNone_some, runNilck, runFieldAddr, asPtr, runUn, asB, capsOf, Bool.not_true, Bool.not_false, beq_self_eq_true, b_tf, b_ft, cells_agg, cells_int, cells_bool, cells_str, cells_ptr, cells_slice, cells_map, Nat.zero_add, Nat.add_zero, and_self, and_true, true_and, List.getElem?_set, R.len, R.t0, R.t3, R.t4]
      · have b1 : ((v : Int) == 1) = false := by simpa using (by omega : ¬ (v : Int) = 1)
        rw [if_neg h1] at htk
        have hsame := same_ok was3.tsl ho2.tsl (by have := R.tl; omega)
        rw [htk, show decide (taken = taken) = true by simp] at hsame
        obtain ⟨E, hE⟩ : ∃ E, Exec S tab fn4_l0 ts m = E := ⟨_, rfl⟩
        have hE2 := hE
        simp -implicitDefEqProofs only [fn4_l0, X_seq, X_region, X_cond, X_block, Exec_ret, Exec_skip, Exec_exit, X_cons, X_nil, opsK_some, guardK_true, guardK_false, wanted_none, wanted_some, stepOp, AOp.run, aval, avals, avalO, aparts, plain, putT, runBox, runBuildSlice, List.length_cons, List.length_nil, List.cons_append, List.nil_append, List.replicate_succ, List.replicate_zero, List.length_replicate, Nat.reduceAdd, Nat.reduceSub, Nat.reduceMul, Nat.reduceLT, Nat.reduceLeDiff, Nat.reduceEqDiff, if_true, if_false, reduceIte, Bool.false_eq_true, Bool.true_eq_false, Option.bind_some, Option.map_some, Option.getD_some, List.set_cons_succ, List.set_cons_zero, List.getElem?_cons_succ, List.getElem?_cons_zero, List.length_set, runEqNil, nilKind, bothNil, thenC_normal, thenC_ret, thenC_exit, condK_true, condK_false, mapN_some, mapB_normal, mapB_ret, mapB_exit, leave_ret, leave_normal, resVs, resV, oneOf, Option.isNone_none, Option.isNone_some, runNilck, runFieldAddr, asPtr, runUn, asB, capsOf, Bool.not_true, Bool.not_false, beq_self_eq_true, b_tf, b_ft, cells_agg, cells_int, cells_bool, cells_str, cells_ptr, cells_slice, cells_map, Nat.zero_add, Nat.add_zero, and_self, and_true, true_and, List.getElem?_set, R.len, R.t0, R.t3, R.t4, R.sl.len, arith, iop, hlt, decide_true, hw1, hq1, ld1, hc16, ho1, b1, hsame, hwr] at hE2
        refine ⟨_, m3, hE.trans hE2.symm, { box := box3, sl := sl3, slt := fun b hb => ⟨by have := (R.slt b hb).1; omega, hslB' b hb⟩, hl := by simp [R.hl], tl := htl2, num := num', len := ?_, t0 := ?_, t3 := ?_, t4 := ?_ }⟩ <;>
          simp -implicitDefEqProofs only [X_seq, X_region, X_cond, X_block, Exec_ret, Exec_skip, Exec_exit, X_cons, X_nil, opsK_some, guardK_true, guardK_false, wanted_none, wanted_some, stepOp, AOp.run, aval, avals, avalO, aparts, plain, putT, runBox, runBuildSlice, List.length_cons, List.length_nil, List.cons_append, List.nil_append, List.replicate_succ, List.replicate_zero, List.length_replicate, Nat.reduceAdd, Nat.reduceSub, Nat.reduceMul, Nat.reduceLT, Nat.reduceLeDiff, Nat.reduceEqDiff, if_true, if_false, reduceIte, Bool.false_eq_true, Bool.true_eq_false, Option.bind_some, Option.map_some, Option.getD_some, List.set_cons_succ, List.set_cons_zero, List.getElem?_cons_succ, List.getElem?_cons_zero, List.length_set, runEqNil, nilKind, bothNil, thenC_normal, thenC_ret, thenC_exit, condK_true, condK_false, mapN_some, mapB_normal, mapB_ret, mapB_exit, leave_ret, leave_normal, resVs, resV, oneOf, Option.isNone_none, Option.isNone_some, runNilck, runFieldAddr, asPtr, runUn, asB, capsOf, Bool.not_true, Bool.not_false, beq_self_eq_true, b_tf, b_ft, cells_agg, cells_int, cells_bool, cells_str, cells_ptr, cells_slice, cells_map, Nat.zero_add, Nat.add_zero, and_self, and_true, true_and, List.getElem?_set, R.len, R.t0, R.t3, R.t4]
    obtain ⟨ts', m', hr1, hr2⟩ := hround
    obtain ⟨ts'', m'', B'', taken'', hist'', g1, g2⟩ := ih (i + 1) ts' m' B' _ _ (by omega) hr2
    exact ⟨ts'', m'', B'', taken'', hist'', by rw [X_loop, hr1, thenC_normal]; exact g1, g2⟩

structure NumR (p av : Value) (i : Nat) (ts : List Value) : Prop where
  len : ts.length = 65
  t3 : ts[3]? = some p
  t8 : ts[8]? = some av
  t9 : ts[9]? = some (.int .i64 i)

theorem num_loop (p av : Value) (l : List Msg) (m : Mem) (hs : TSl encMsg m av l) (hn : Num l) (hl : l.length ≤ 300) : ∀ (d i : Nat) (ts : List Value), i + d = l.length → NumR p av i ts →
    ∃ ts', Exec S tab (.loop fn4_l1) ts m = some (.exit 2, ts', m) ∧ NumR p av l.length ts' := by
  intro d
  induction d with
  | zero =>
    intro i ts hi R
    obtain rfl : i = l.length := by omega
    have hlt : ¬ ((l.length : Int) < (l.length : Int)) := by omega
    obtain ⟨E, hE⟩ : ∃ E, Exec S tab (.loop fn4_l1) ts m = E := ⟨_, rfl⟩
    have hE2 := hE
    rw [X_loop] at hE2
    simp -implicitDefEqProofs only [fn4_l1, X_seq, X_region, X_cond, X_block, Exec_ret, Exec_skip, Exec_exit, X_cons, X_nil, opsK_some, guardK_true, guardK_false, wanted_none, wanted_some, stepOp, AOp.run, aval, avals, avalO, aparts, plain, putT, runBox, runBuildSlice, List.length_cons, List.length_nil, List.cons_append, List.nil_append, List.replicate_succ, List.replicate_zero, List.length_replicate, Nat.reduceAdd, Nat.reduceSub, Nat.reduceMul, Nat.reduceLT, Nat.reduceLeDiff, Nat.reduceEqDiff, if_true, if_false, reduceIte, Bool.false_eq_true, Bool.true_eq_false, Option.bind_some, Option.map_some, Option.getD_some, List.set_cons_succ, List.set_cons_zero, List.getElem?_cons_succ, List.getElem?_cons_zero, List.length_set, runEqNil, nilKind, bothNil, thenC_normal, thenC_ret, thenC_exit, condK_true, condK_false, mapN_some, mapB_normal, mapB_ret, mapB_exit, leave_ret, leave_normal, resVs, resV, oneOf, Option.isNone_none, Option.isNone_some, runNilck, runFieldAddr, asPtr, runUn, asB, capsOf, Bool.not_true, Bool.not_false, beq_self_eq_true, b_tf, b_ft, cells_agg, cells_int, cells_bool, cells_str, cells_ptr, cells_slice, cells_map, Nat.zero_add, Nat.add_zero, and_self, and_true, true_and, List.getElem?_set, R.len, R.t8, R.t9, hs.len, arith, iop, hlt, decide_false] at hE2
    refine ⟨_, hE.trans hE2.symm, { len := ?_, t3 := ?_, t8 := ?_, t9 := ?_ }⟩ <;>
      simp -implicitDefEqProofs only [X_seq, X_region, X_cond, X_block, Exec_ret, Exec_skip, Exec_exit, X_cons, X_nil, opsK_some, guardK_true, guardK_false, wanted_none, wanted_some, stepOp, AOp.run, aval, avals, avalO, aparts, plain, putT, runBox, runBuildSlice, List.length_cons, List.length_nil, List.cons_append, List.nil_append, List.replicate_succ, List.replicate_zero, List.length_replicate, Nat.reduceAdd, Nat.reduceSub, Nat.reduceMul, Nat.reduceLT, Nat.reduceLeDiff, Nat.reduceEqDiff, if_true, if_false, reduceIte, Bool.false_eq_true, Bool.true_eq_false, Option.bind_some, Option.map_some, Option.getD_some, List.set_cons_succ, List.set_cons_zero, List.getElem?_cons_succ, List.getElem?_cons_zero, List.length_set, runEqNil, nilKind, bothNil, thenC_normal, thenC_ret, thenC_exit, condK_true, condK_false, mapN_some, mapB_normal, mapB_ret, mapB_exit, leave_ret, leave_normal, resVs, resV, oneOf, Option.isNone_none, Option.isNone_some, runNilck, runFieldAddr, asPtr, runUn, asB, capsOf, Bool.not_true, Bool.not_false, beq_self_eq_true, b_tf, b_ft, cells_agg, cells_int, cells_bool, cells_str, cells_ptr, cells_slice, cells_map, Nat.zero_add, Nat.add_zero, and_self, and_true, true_and, List.getElem?_set, R.len, R.t3, R.t8, R.t9]
  | succ d ih =>
    intro i ts hi R
    have hin : i < l.length := by omega
    have hlt : (i : Int) < (l.length : Int) := by omega
    obtain ⟨qb, qo, hq1, hq2⟩ := hs.at .i64 (List.getElem?_eq_getElem hin)
    rw [esize] at hq1
    have hwr := wrap_succ (i := i) hin (by omega)
    have hld := (hq2 m hs).2 0 (.int .i64 l[i].seq) rfl
    rw [hn i _ (List.getElem?_eq_getElem hin), Nat.add_zero] at hld
    have hwr' : IntKind.i64.wrap ((i : Int) + 1) = (i : Int) + 1 := wrap_in (by omega) (by omega)
    have b0 : (((i : Int) + 1) != ((i + 1 : Nat) : Int)) = false := by simp
    have hround : ∃ ts', Exec S tab fn4_l1 ts m = some (.normal, ts', m) ∧ NumR p av (i + 1) ts' := by
      obtain ⟨E, hE⟩ : ∃ E, Exec S tab fn4_l1 ts m = E := ⟨_, rfl⟩
      have hE2 := hE
      simp -implicitDefEqProofs only [fn4_l1, X_seq, X_region, X_cond, X_block, Exec_ret, Exec_skip, Exec_exit, X_cons, X_nil, opsK_some, guardK_true, guardK_false, wanted_none, wanted_some, stepOp, AOp.run, aval, avals, avalO, aparts, plain, putT, runBox, runBuildSlice, List.length_cons, List.length_nil, List.cons_append, List.nil_append, List.replicate_succ, List.replicate_zero, List.length_replicate, Nat.reduceAdd, Nat.reduceSub, Nat.reduceMul, Nat.reduceLT, Nat.reduceLeDiff, Nat.reduceEqDiff, if_true, if_false, reduceIte, Bool.false_eq_true, Bool.true_eq_false, Option.bind_some, Option.map_some, Option.getD_some, List.set_cons_succ, List.set_cons_zero, List.getElem?_cons_succ, List.getElem?_cons_zero, List.length_set, runEqNil, nilKind, bothNil, thenC_normal, thenC_ret, thenC_exit, condK_true, condK_false, mapN_some, mapB_normal, mapB_ret, mapB_exit, leave_ret, leave_normal, resVs, resV, oneOf, Option.isNone_none, Option.isNone_some, runNilck, runFieldAddr, asPtr, runUn, asB, capsOf, Bool.not_true, Bool.not_false, beq_self_eq_true, b_tf, b_ft, cells_agg, cells_int, cells_bool, cells_str, cells_ptr, cells_slice, cells_map, Nat.zero_add, Nat.add_zero, and_self, and_true, true_and, List.getElem?_set, R.len, R.t8, R.t9, hs.len, arith, iop, hlt, decide_true, hq1, hld, hwr, b0] at hE2
      refine ⟨_, hE.trans hE2.symm, { len := ?_, t3 := ?_, t8 := ?_, t9 := ?_ }⟩ <;>
        simp -implicitDefEqProofs only [X_seq, X_region, X_cond, X_block, Exec_ret, Exec_skip, Exec_exit, X_cons, X_nil, opsK_some, guardK_true, guardK_false, wanted_none, wanted_some, stepOp, AOp.run, aval, avals, avalO, aparts, plain, putT, runBox, runBuildSlice, List.length_cons, List.length_nil, List.cons_append, List.nil_append, List.replicate_succ, List.replicate_zero, List.length_replicate, Nat.reduceAdd, Nat.reduceSub, Nat.reduceMul, Nat.reduceLT, Nat.reduceLeDiff, Nat.reduceEqDiff, if_true, if_false, reduceIte, Bool.false_eq_true, Bool.true_eq_false, Option.bind_some, Option.map_some, Option.getD_some, List.set_cons_succ, List.set_cons_zero, List.getElem?_cons_succ, List.getElem?_cons_zero, List.length_set, runEqNil, nilKind, bothNil, thenC_normal, thenC_ret, thenC_exit, condK_true, condK_false, mapN_some, mapB_normal, mapB_ret, mapB_exit, leave_ret, leave_normal, resVs, resV, oneOf, Option.isNone_none, Option.isNone_some, runNilck, runFieldAddr, asPtr, runUn, asB, capsOf, Bool.not_true, Bool.not_false, beq_self_eq_true, b_tf, b_ft, cells_agg, cells_int, cells_bool, cells_str, cells_ptr, cells_slice, cells_map, Nat.zero_add, Nat.add_zero, and_self, and_true, true_and, List.getElem?_set, R.len, R.t3, R.t8, R.t9]
    obtain ⟨ts', hr1, hr2⟩ := hround
    obtain ⟨ts'', g1, g2⟩ := ih (i + 1) ts' (by omega) hr2
    exact ⟨ts'', by rw [X_loop, hr1, thenC_normal]; exact g1, g2⟩

theorem inboxOnce {m : Mem} {v : Value} {l : List Msg} (h : TSl encMsg m v l) (hn : l.length ≤ maxLen) (hb : ∀ b ∈ blkOf v, b < m.next) : ∃ m', Call S tab 4 [v] m = some (.bool true, m') := by
  obtain ⟨w, he1, he2, he3⟩ := early_ok h hn
  obtain ⟨p, m1, hn1, hbox, hu1⟩ := new_ok m
  have hL : (l.take 300).length ≤ 300 := by simp; omega
  have hwb : ∀ b ∈ blkOf w, b < m.next := fun b hbw => hb b (he3 ▸ hbw)
  have hbn := hbox.lt m.next (by simp)
  obtain ⟨ts, m2, B, taken, hist, h1, R⟩ := once_loop w (l.take 300) p hL (l.take 300).length 0
    ([w, undef, .bool false, p, .int .i64 0, undef, undef, undef, undef, undef, .bool true, .bool false, v, w, p] ++ List.replicate 50 undef) m1 [m.next] [] [] (by omega)
    ⟨by simp, rfl, rfl, rfl, hbox, he2.upd hu1 (fun b hb' => ⟨hwb b hb', by simp⟩), fun b hb' => ⟨by have := hwb b hb'; omega, by simp; have := hwb b hb'; omega⟩, rfl, by simp, fun i a h => by simp at h⟩
  simp only [List.replicate_succ, List.replicate_zero, List.cons_append, List.nil_append] at h1
  obtain ⟨av, m3, ha1, ha2, ha3, ha4⟩ := all_ok R.box (by have := R.tl; omega)
  have box3 := R.box.upd ha3 (fun b _ hb => by simp at hb)
  have hlast := last_ok box3
  obtain ⟨E, hE⟩ : ∃ E, Exec S tab (.loop fn4_l1) (((ts.set 44 p).set 45 av).set 8 av |>.set 9 (.int .i64 0)) m3 = E := ⟨_, rfl⟩
  obtain ⟨ts2, h2, R2⟩ := num_loop p av taken m3 ha2.tsl R.num (by have := R.tl; omega) taken.length 0 ((((ts.set 44 p).set 45 av).set 8 av).set 9 (.int .i64 0)) (by omega)
    ⟨by simp [R.len], by simp -implicitDefEqProofs only [X_seq, X_region, X_cond, X_block, Exec_ret, Exec_skip, Exec_exit, X_cons, X_nil, opsK_some, guardK_true, guardK_false, wanted_none, wanted_some, stepOp, AOp.run, aval, avals, avalO, aparts, plain, putT, runBox, runBuildSlice, List.length_cons, List.length_nil, List.cons_append, List.nil_append, List.replicate_succ, List.replicate_zero, List.length_replicate, Nat.reduceAdd, Nat.reduceSub, Nat.reduceMul, Nat.reduceLT, Nat.reduceLeDiff, Nat.reduceEqDiff, if_true, if_false, reduceIte, Bool.false_eq_true, Bool.true_eq_false, Option.bind_some, Option.map_some, Option.getD_some, List.set_cons_succ, List.set_cons_zero, List.getElem?_cons_succ, List.getElem?_cons_zero, List.length_set, runEqNil, nilKind, bothNil, thenC_normal, thenC_ret, thenC_exit, condK_true, condK_false, mapN_some, mapB_normal, mapB_ret, mapB_exit, leave_ret, leave_normal, resVs, resV, oneOf, Option.isNone_none, Option.isNone_some, runNilck, runFieldAddr, asPtr, runUn, asB, capsOf, Bool.not_true, Bool.not_false, beq_self_eq_true, b_tf, b_ft, cells_agg, cells_int, cells_bool, cells_str, cells_ptr, cells_slice, cells_map, Nat.zero_add, Nat.add_zero, and_self, and_true, true_and, List.getElem?_set, R.len, R.t3], by simp -implicitDefEqProofs only [X_seq, X_region, X_cond, X_block, Exec_ret, Exec_skip, Exec_exit, X_cons, X_nil, opsK_some, guardK_true, guardK_false, wanted_none, wanted_some, stepOp, AOp.run, aval, avals, avalO, aparts, plain, putT, runBox, runBuildSlice, List.length_cons, List.length_nil, List.cons_append, List.nil_append, List.replicate_succ, List.replicate_zero, List.length_replicate, Nat.reduceAdd, Nat.reduceSub, Nat.reduceMul, Nat.reduceLT, Nat.reduceLeDiff, Nat.reduceEqDiff, if_true, if_false, reduceIte, Bool.false_eq_true, Bool.true_eq_false, Option.bind_some, Option.map_some, Option.getD_some, List.set_cons_succ, List.set_cons_zero, List.getElem?_cons_succ, List.getElem?_cons_zero, List.length_set, runEqNil, nilKind, bothNil, thenC_normal, thenC_ret, thenC_exit, condK_true, condK_false, mapN_some, mapB_normal, mapB_ret, mapB_exit, leave_ret, leave_normal, resVs, resV, oneOf, Option.isNone_none, Option.isNone_some, runNilck, runFieldAddr, asPtr, runUn, asB, capsOf, Bool.not_true, Bool.not_false, beq_self_eq_true, b_tf, b_ft, cells_agg, cells_int, cells_bool, cells_str, cells_ptr, cells_slice, cells_map, Nat.zero_add, Nat.add_zero, and_self, and_true, true_and, List.getElem?_set, R.len, R.t3], by simp -implicitDefEqProofs only [X_seq, X_region, X_cond, X_block, Exec_ret, Exec_skip, Exec_exit, X_cons, X_nil, opsK_some, guardK_true, guardK_false, wanted_none, wanted_some, stepOp, AOp.run, aval, avals, avalO, aparts, plain, putT, runBox, runBuildSlice, List.length_cons, List.length_nil, List.cons_append, List.nil_append, List.replicate_succ, List.replicate_zero, List.length_replicate, Nat.reduceAdd, Nat.reduceSub, Nat.reduceMul, Nat.reduceLT, Nat.reduceLeDiff, Nat.reduceEqDiff, if_true, if_false, reduceIte, Bool.false_eq_true, Bool.true_eq_false, Option.bind_some, Option.map_some, Option.getD_some, List.set_cons_succ, List.set_cons_zero, List.getElem?_cons_succ, List.getElem?_cons_zero, List.length_set, runEqNil, nilKind, bothNil, thenC_normal, thenC_ret, thenC_exit, condK_true, condK_false, mapN_some, mapB_normal, mapB_ret, mapB_exit, leave_ret, leave_normal, resVs, resV, oneOf, Option.isNone_none, Option.isNone_some, runNilck, runFieldAddr, asPtr, runUn, asB, capsOf, Bool.not_true, Bool.not_false, beq_self_eq_true, b_tf, b_ft, cells_agg, cells_int, cells_bool, cells_str, cells_ptr, cells_slice, cells_map, Nat.zero_add, Nat.add_zero, and_self, and_true, true_and, List.getElem?_set, R.len, R.t3]; rfl⟩
  refine ⟨m3, ?_⟩
  rw [eq4]
  simp -implicitDefEqProofs only [fn4, X_seq, X_region, X_cond, X_block, Exec_ret, Exec_skip, Exec_exit, X_cons, X_nil, opsK_some, guardK_true, guardK_false, wanted_none, wanted_some, stepOp, AOp.run, aval, avals, avalO, aparts, plain, putT, runBox, runBuildSlice, List.length_cons, List.length_nil, List.cons_append, List.nil_append, List.replicate_succ, List.replicate_zero, List.length_replicate, Nat.reduceAdd, Nat.reduceSub, Nat.reduceMul, Nat.reduceLT, Nat.reduceLeDiff, Nat.reduceEqDiff, if_true, if_false, reduceIte, Bool.false_eq_true, Bool.true_eq_false, Option.bind_some, Option.map_some, Option.getD_some, List.set_cons_succ, List.set_cons_zero, List.getElem?_cons_succ, List.getElem?_cons_zero, List.length_set, runEqNil, nilKind, bothNil, thenC_normal, thenC_ret, thenC_exit, condK_true, condK_false, mapN_some, mapB_normal, mapB_ret, mapB_exit, leave_ret, leave_normal, resVs, resV, oneOf, Option.isNone_none, Option.isNone_some, runNilck, runFieldAddr, asPtr, runUn, asB, capsOf, Bool.not_true, Bool.not_false, beq_self_eq_true, b_tf, b_ft, cells_agg, cells_int, cells_bool, cells_str, cells_ptr, cells_slice, cells_map, Nat.zero_add, Nat.add_zero, and_self, and_true, true_and, eq12, he1, hn1, h1, List.getElem?_set, R.len, R.t3, ha1, h2, R2.len, R2.t3, R2.t8, ha2.tsl.len, hlast, arith, iop, beq_self_eq_true]

end Go.Fx.Try
