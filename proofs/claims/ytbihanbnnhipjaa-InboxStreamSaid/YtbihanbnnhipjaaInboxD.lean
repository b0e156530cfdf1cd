/- Inbox: what the other functions answer. -/
import Derived.Test.YtbihanbnnhipjaaInboxC
namespace Go.Fx.Try
open Go Go.Fx
set_option linter.unusedSimpArgs false
set_option linter.unusedVariables false

theorem last_ok {m : Mem} {p : Value} {B : List Nat} {taken : List Msg} {hist : List Nat} (h : BoxAt m p B taken hist) : Call S tab 17 [p] m = some (.int .i64 taken.length, m) := by
  obtain ⟨bx, sv, rfl, rfl, q1, q2, q3, q4⟩ := h
  have hlen := q4.tsl.len
  have hsv := load_at (o := 0) q3 (v := sv) rfl
  rw [eq17]
  simp -implicitDefEqProofs only [fn17, X_seq, X_region, X_cond, X_block, Exec_ret, Exec_skip, Exec_exit, X_cons, X_nil, opsK_some, guardK_true, guardK_false, wanted_none, wanted_some, stepOp, AOp.run, aval, avals, avalO, aparts, plain, putT, runBox, runBuildSlice, List.length_cons, List.length_nil, List.cons_append, List.nil_append, List.replicate_succ, List.replicate_zero, List.length_replicate, Nat.reduceAdd, Nat.reduceSub, Nat.reduceMul, Nat.reduceLT, Nat.reduceLeDiff, Nat.reduceEqDiff, if_true, if_false, reduceIte, Bool.false_eq_true, Bool.true_eq_false, Option.bind_some, Option.map_some, Option.getD_some, List.set_cons_succ, List.set_cons_zero, List.getElem?_cons_succ, List.getElem?_cons_zero, List.length_set, runEqNil, nilKind, bothNil, thenC_normal, thenC_ret, thenC_exit, condK_true, condK_false, mapN_some, mapB_normal, mapB_ret, mapB_exit, leave_ret, leave_normal, resVs, resV, oneOf, Option.isNone_none, Option.isNone_some, runNilck, runFieldAddr, asPtr, runUn, asB, capsOf, Bool.not_true, Bool.not_false, beq_self_eq_true, b_tf, b_ft, cells_agg, cells_int, cells_bool, cells_str, cells_ptr, cells_slice, cells_map, Nat.zero_add, Nat.add_zero, and_self, and_true, true_and, hsv, hlen]

theorem count_ok {m : Mem} {p : Value} {B : List Nat} {taken : List Msg} {hist : List Nat} (h : BoxAt m p B taken hist) {v : Nat} (h1 : 1 ≤ v) (h5 : v ≤ 5) : Call S tab 20 [p, .int .i64 v] m = some (.int .i64 (hist.count v), m) := by
  obtain ⟨bx, sv, rfl, rfl, q1, q2, q3, q4⟩ := h
  have hidx : runIndexA 6 1 (.pointer (some ⟨bx, 0 + 1, none⟩)) (.int .i64 (v : Int)) = some (.pointer (some ⟨bx, 1 + v, none⟩)) := by
    have : (0 : Int) ≤ (v : Int) ∧ (v : Int) < ((6 : Nat) : Int) := by omega
    simp only [runIndexA, if_pos this]
    congr 4
    omega
  have hld := load_at (o := 1 + v) q3 (cnts_get hist h5 sv)
  have b1 : decide ((v : Int) < 1) = false := by simp; omega
  have b2 : decide ((v : Int) > 5) = false := by simp; omega
  rw [eq20]
  simp -implicitDefEqProofs only [fn20, X_seq, X_region, X_cond, X_block, Exec_ret, Exec_skip, Exec_exit, X_cons, X_nil, opsK_some, guardK_true, guardK_false, wanted_none, wanted_some, stepOp, AOp.run, aval, avals, avalO, aparts, plain, putT, runBox, runBuildSlice, List.length_cons, List.length_nil, List.cons_append, List.nil_append, List.replicate_succ, List.replicate_zero, List.length_replicate, Nat.reduceAdd, Nat.reduceSub, Nat.reduceMul, Nat.reduceLT, Nat.reduceLeDiff, Nat.reduceEqDiff, if_true, if_false, reduceIte, Bool.false_eq_true, Bool.true_eq_false, Option.bind_some, Option.map_some, Option.getD_some, List.set_cons_succ, List.set_cons_zero, List.getElem?_cons_succ, List.getElem?_cons_zero, List.length_set, runEqNil, nilKind, bothNil, thenC_normal, thenC_ret, thenC_exit, condK_true, condK_false, mapN_some, mapB_normal, mapB_ret, mapB_exit, leave_ret, leave_normal, resVs, resV, oneOf, Option.isNone_none, Option.isNone_some, runNilck, runFieldAddr, asPtr, runUn, asB, capsOf, Bool.not_true, Bool.not_false, beq_self_eq_true, b_tf, b_ft, cells_agg, cells_int, cells_bool, cells_str, cells_ptr, cells_slice, cells_map, Nat.zero_add, Nat.add_zero, and_self, and_true, true_and, hidx, hld, arith, iop, b1, b2]

theorem count_none {m : Mem} {p : Value} {B : List Nat} {taken : List Msg} {hist : List Nat} (h : BoxAt m p B taken hist) {v : Int} (hv : v < 1 ∨ v > 5) : Call S tab 20 [p, .int .i64 v] m = some (.int .i64 0, m) := by
  obtain ⟨bx, sv, rfl, rfl, q1, q2, q3, q4⟩ := h
  rw [eq20]
  by_cases h1 : v < 1
  · have b1 : decide (v < 1) = true := by simpa using h1
    simp -implicitDefEqProofs only [fn20, X_seq, X_region, X_cond, X_block, Exec_ret, Exec_skip, Exec_exit, X_cons, X_nil, opsK_some, guardK_true, guardK_false, wanted_none, wanted_some, stepOp, AOp.run, aval, avals, avalO, aparts, plain, putT, runBox, runBuildSlice, List.length_cons, List.length_nil, List.cons_append, List.nil_append, List.replicate_succ, List.replicate_zero, List.length_replicate, Nat.reduceAdd, Nat.reduceSub, Nat.reduceMul, Nat.reduceLT, Nat.reduceLeDiff, Nat.reduceEqDiff, if_true, if_false, reduceIte, Bool.false_eq_true, Bool.true_eq_false, Option.bind_some, Option.map_some, Option.getD_some, List.set_cons_succ, List.set_cons_zero, List.getElem?_cons_succ, List.getElem?_cons_zero, List.length_set, runEqNil, nilKind, bothNil, thenC_normal, thenC_ret, thenC_exit, condK_true, condK_false, mapN_some, mapB_normal, mapB_ret, mapB_exit, leave_ret, leave_normal, resVs, resV, oneOf, Option.isNone_none, Option.isNone_some, runNilck, runFieldAddr, asPtr, runUn, asB, capsOf, Bool.not_true, Bool.not_false, beq_self_eq_true, b_tf, b_ft, cells_agg, cells_int, cells_bool, cells_str, cells_ptr, cells_slice, cells_map, Nat.zero_add, Nat.add_zero, and_self, and_true, true_and, arith, iop, b1]
  · have b1 : decide (v < 1) = false := by simpa using h1
    have b2 : decide (v > 5) = true := by simp; omega
    simp -implicitDefEqProofs only [fn20, X_seq, X_region, X_cond, X_block, Exec_ret, Exec_skip, Exec_exit, X_cons, X_nil, opsK_some, guardK_true, guardK_false, wanted_none, wanted_some, stepOp, AOp.run, aval, avals, avalO, aparts, plain, putT, runBox, runBuildSlice, List.length_cons, List.length_nil, List.cons_append, List.nil_append, List.replicate_succ, List.replicate_zero, List.length_replicate, Nat.reduceAdd, Nat.reduceSub, Nat.reduceMul, Nat.reduceLT, Nat.reduceLeDiff, Nat.reduceEqDiff, if_true, if_false, reduceIte, Bool.false_eq_true, Bool.true_eq_false, Option.bind_some, Option.map_some, Option.getD_some, List.set_cons_succ, List.set_cons_zero, List.getElem?_cons_succ, List.getElem?_cons_zero, List.length_set, runEqNil, nilKind, bothNil, thenC_normal, thenC_ret, thenC_exit, condK_true, condK_false, mapN_some, mapB_normal, mapB_ret, mapB_exit, leave_ret, leave_normal, resVs, resV, oneOf, Option.isNone_none, Option.isNone_some, runNilck, runFieldAddr, asPtr, runUn, asB, capsOf, Bool.not_true, Bool.not_false, beq_self_eq_true, b_tf, b_ft, cells_agg, cells_int, cells_bool, cells_str, cells_ptr, cells_slice, cells_map, Nat.zero_add, Nat.add_zero, and_self, and_true, true_and, arith, iop, b1, b2]

theorem clone_ok {m : Mem} {v : Value} {l : List Msg} (h : TSl encMsg m v l) (hb : ∀ b ∈ blkOf v, b < m.next) (hn : l.length ≤ 2 ^ 20) :
    ∃ v' m', Call S tab 40 [v] m = some (v', m') ∧ TGr encMsg 32 m' v' l ∧ Upd [] m m' ∧ ∀ b ∈ blkOf v', m.next ≤ b := by
  rcases h with ⟨h1, ⟨rfl, h0⟩ | ⟨b, off, cap, rfl, hc, h3⟩⟩
  · have : l = [] := by simpa using h0
    subst this
    refine ⟨.slice none 0 0, m, ?_, .inl (TOwn.nil _ _), Upd.refl _ _, fun b hb => by simp [blkOf] at hb⟩
    rw [eq40]
    simp -implicitDefEqProofs only [fn40, X_seq, X_region, X_cond, X_block, Exec_ret, Exec_skip, Exec_exit, X_cons, X_nil, opsK_some, guardK_true, guardK_false, wanted_none, wanted_some, stepOp, AOp.run, aval, avals, avalO, aparts, plain, putT, runBox, runBuildSlice, List.length_cons, List.length_nil, List.cons_append, List.nil_append, List.replicate_succ, List.replicate_zero, List.length_replicate, Nat.reduceAdd, Nat.reduceSub, Nat.reduceMul, Nat.reduceLT, Nat.reduceLeDiff, Nat.reduceEqDiff, if_true, if_false, reduceIte, Bool.false_eq_true, Bool.true_eq_false, Option.bind_some, Option.map_some, Option.getD_some, List.set_cons_succ, List.set_cons_zero, List.getElem?_cons_succ, List.getElem?_cons_zero, List.length_set, runEqNil, nilKind, bothNil, thenC_normal, thenC_ret, thenC_exit, condK_true, condK_false, mapN_some, mapB_normal, mapB_ret, mapB_exit, leave_ret, leave_normal, resVs, resV, oneOf, Option.isNone_none, Option.isNone_some, runNilck, runFieldAddr, asPtr, runUn, asB, capsOf, Bool.not_true, Bool.not_false, beq_self_eq_true, b_tf, b_ft, cells_agg, cells_int, cells_bool, cells_str, cells_ptr, cells_slice, cells_map, Nat.zero_add, Nat.add_zero, and_self, and_true, true_and]
  · have hu : Upd [] m (m.add ⟨.cells [] 32, false, none⟩) := Upd.add _ _ _
    have hsl : TSl encMsg (m.add ⟨.cells [] 32, false, none⟩) (.slice (some ⟨b, off, none⟩) l.length cap) l :=
      TSl.upd (m := m) ⟨h1, .inr ⟨b, off, cap, rfl, hc, h3⟩⟩ hu (fun c hc => ⟨hb c hc, by simp⟩)
    have hgr : TGr encMsg 32 (m.add ⟨.cells [] 32, false, none⟩) (.slice (some ⟨m.next, 0, none⟩) 0 0) [] := .inr ⟨m.next, 32, rfl, rfl, by simp, Mem.get_add_self ..⟩
    have hsrc := hsl.src
    rw [esize] at hsrc
    by_cases hl : l = []
    · subst hl
      refine ⟨.slice (some ⟨m.next, 0, none⟩) 0 0, m.add ⟨.cells [] 32, false, none⟩, ?_, hgr, hu, fun c hc => by simp [blkOf] at hc; omega⟩
      have ha : runAppend 32 6 56 (.slice (some ⟨m.next, 0, none⟩) 0 0) 0 [] (m.add ⟨.cells [] 32, false, none⟩) = some (.slice (some ⟨m.next, 0, none⟩) 0 0, m.add ⟨.cells [] 32, false, none⟩) := by simp [runAppend]
      have hsrc' : ∀ mm, runSrc 6 (.slice (some ⟨b, off, none⟩) 0 cap) mm = some (0, []) := fun mm => by simp [runSrc]
      rw [eq40]
      simp -implicitDefEqProofs only [fn40, X_seq, X_region, X_cond, X_block, Exec_ret, Exec_skip, Exec_exit, X_cons, X_nil, opsK_some, guardK_true, guardK_false, wanted_none, wanted_some, stepOp, AOp.run, aval, avals, avalO, aparts, plain, putT, runBox, runBuildSlice, List.length_cons, List.length_nil, List.cons_append, List.nil_append, List.replicate_succ, List.replicate_zero, List.length_replicate, Nat.reduceAdd, Nat.reduceSub, Nat.reduceMul, Nat.reduceLT, Nat.reduceLeDiff, Nat.reduceEqDiff, if_true, if_false, reduceIte, Bool.false_eq_true, Bool.true_eq_false, Option.bind_some, Option.map_some, Option.getD_some, List.set_cons_succ, List.set_cons_zero, List.getElem?_cons_succ, List.getElem?_cons_zero, List.length_set, runEqNil, nilKind, bothNil, thenC_normal, thenC_ret, thenC_exit, condK_true, condK_false, mapN_some, mapB_normal, mapB_ret, mapB_exit, leave_ret, leave_normal, resVs, resV, oneOf, Option.isNone_none, Option.isNone_some, runNilck, runFieldAddr, asPtr, runUn, asB, capsOf, Bool.not_true, Bool.not_false, beq_self_eq_true, b_tf, b_ft, cells_agg, cells_int, cells_bool, cells_str, cells_ptr, cells_slice, cells_map, Nat.zero_add, Nat.add_zero, and_self, and_true, true_and, afill, hsrc', ha]
    · obtain ⟨v', m', ha1, ha2, ha3, ha4, ha5⟩ := hgr.append (eb := 56) hl (by simp; omega) (by simp; omega)
      rw [esize] at ha1
      refine ⟨v', m', ?_, by simpa using ha2.gr, (hu.trans_new ha3 (fun c hc => by simp [blkOf] at hc; exact .inr (by omega))), fun c hc => by rw [ha5] at hc; simp at hc; omega⟩
      rw [eq40]
      simp -implicitDefEqProofs only [fn40, X_seq, X_region, X_cond, X_block, Exec_ret, Exec_skip, Exec_exit, X_cons, X_nil, opsK_some, guardK_true, guardK_false, wanted_none, wanted_some, stepOp, AOp.run, aval, avals, avalO, aparts, plain, putT, runBox, runBuildSlice, List.length_cons, List.length_nil, List.cons_append, List.nil_append, List.replicate_succ, List.replicate_zero, List.length_replicate, Nat.reduceAdd, Nat.reduceSub, Nat.reduceMul, Nat.reduceLT, Nat.reduceLeDiff, Nat.reduceEqDiff, if_true, if_false, reduceIte, Bool.false_eq_true, Bool.true_eq_false, Option.bind_some, Option.map_some, Option.getD_some, List.set_cons_succ, List.set_cons_zero, List.getElem?_cons_succ, List.getElem?_cons_zero, List.length_set, runEqNil, nilKind, bothNil, thenC_normal, thenC_ret, thenC_exit, condK_true, condK_false, mapN_some, mapB_normal, mapB_ret, mapB_exit, leave_ret, leave_normal, resVs, resV, oneOf, Option.isNone_none, Option.isNone_some, runNilck, runFieldAddr, asPtr, runUn, asB, capsOf, Bool.not_true, Bool.not_false, beq_self_eq_true, b_tf, b_ft, cells_agg, cells_int, cells_bool, cells_str, cells_ptr, cells_slice, cells_map, Nat.zero_add, Nat.add_zero, and_self, and_true, true_and, afill, hsrc, ha1]

theorem all_ok {m : Mem} {p : Value} {B : List Nat} {taken : List Msg} {hist : List Nat} (h : BoxAt m p B taken hist) (hn : taken.length ≤ 2 ^ 20) :
    ∃ v' m', Call S tab 19 [p] m = some (v', m') ∧ TGr encMsg 32 m' v' taken ∧ Upd [] m m' ∧ ∀ b ∈ blkOf v', m.next ≤ b := by
  obtain ⟨bx, sv, rfl, rfl, q1, q2, q3, q4⟩ := h
  have hsv := load_at (o := 0) q3 (v := sv) rfl
  obtain ⟨v', m', h1, h2, h3, h4⟩ := clone_ok q4.tsl q4.lt hn
  refine ⟨v', m', ?_, h2, h3, h4⟩
  rw [eq19]
  simp -implicitDefEqProofs only [fn19, X_seq, X_region, X_cond, X_block, Exec_ret, Exec_skip, Exec_exit, X_cons, X_nil, opsK_some, guardK_true, guardK_false, wanted_none, wanted_some, stepOp, AOp.run, aval, avals, avalO, aparts, plain, putT, runBox, runBuildSlice, List.length_cons, List.length_nil, List.cons_append, List.nil_append, List.replicate_succ, List.replicate_zero, List.length_replicate, Nat.reduceAdd, Nat.reduceSub, Nat.reduceMul, Nat.reduceLT, Nat.reduceLeDiff, Nat.reduceEqDiff, if_true, if_false, reduceIte, Bool.false_eq_true, Bool.true_eq_false, Option.bind_some, Option.map_some, Option.getD_some, List.set_cons_succ, List.set_cons_zero, List.getElem?_cons_succ, List.getElem?_cons_zero, List.length_set, runEqNil, nilKind, bothNil, thenC_normal, thenC_ret, thenC_exit, condK_true, condK_false, mapN_some, mapB_normal, mapB_ret, mapB_exit, leave_ret, leave_normal, resVs, resV, oneOf, Option.isNone_none, Option.isNone_some, runNilck, runFieldAddr, asPtr, runUn, asB, capsOf, Bool.not_true, Bool.not_false, beq_self_eq_true, b_tf, b_ft, cells_agg, cells_int, cells_bool, cells_str, cells_ptr, cells_slice, cells_map, Nat.zero_add, Nat.add_zero, and_self, and_true, true_and, hsv, h1]

/-- The head of a round of Same. -/
structure SameR (v w : Value) (i : Nat) (ts : List Value) : Prop where
  len : ts.length = 26
  t0 : ts[0]? = some v
  t1 : ts[1]? = some w
  t5 : ts[5]? = some (.int .i64 i)

theorem same_loop {m : Mem} {v w : Value} {l k : List Msg} (hv : TSl encMsg m v l) (hw : TSl encMsg m w k) (hl : l.length = k.length) (hn : l.length ≤ 2 ^ 20) : ∀ (d i : Nat) (ts : List Value), i + d = l.length → SameR v w i ts →
    ∃ ts', Exec S tab (.loop fn18_l0) ts m = some (if l.drop i = k.drop i then .exit 0 else .ret, ts', m) ∧ ts'.length = 26 ∧ (l.drop i ≠ k.drop i → ts'[4]? = some (.bool false)) := by
  intro d
  induction d with
  | zero =>
    intro i ts hi R
    obtain rfl : i = l.length := by omega
    have hlt : ¬ ((l.length : Int) < (l.length : Int)) := by omega
    have he : l.drop l.length = k.drop l.length := by rw [List.drop_length, hl, List.drop_length]
    rw [if_pos he]
    obtain ⟨E, hE⟩ : ∃ E, Exec S tab (.loop fn18_l0) ts m = E := ⟨_, rfl⟩
    have hE2 := hE
    rw [X_loop] at hE2
    simp -implicitDefEqProofs only [fn18_l0, X_seq, X_region, X_cond, X_block, Exec_ret, Exec_skip, Exec_exit, X_cons, X_nil, opsK_some, guardK_true, guardK_false, wanted_none, wanted_some, stepOp, AOp.run, aval, avals, avalO, aparts, plain, putT, runBox, runBuildSlice, List.length_cons, List.length_nil, List.cons_append, List.nil_append, List.replicate_succ, List.replicate_zero, List.length_replicate, Nat.reduceAdd, Nat.reduceSub, Nat.reduceMul, Nat.reduceLT, Nat.reduceLeDiff, Nat.reduceEqDiff, if_true, if_false, reduceIte, Bool.false_eq_true, Bool.true_eq_false, Option.bind_some, Option.map_some, Option.getD_some, List.set_cons_succ, List.set_cons_zero, List.getElem?_cons_succ, List.getElem?_cons_zero, List.length_set, runEqNil, nilKind, bothNil, thenC_normal, thenC_ret, thenC_exit, condK_true, condK_false, mapN_some, mapB_normal, mapB_ret, mapB_exit, leave_ret, leave_normal, resVs, resV, oneOf, Option.isNone_none, Option.isNone_some, runNilck, runFieldAddr, asPtr, runUn, asB, capsOf, Bool.not_true, Bool.not_false, beq_self_eq_true, b_tf, b_ft, cells_agg, cells_int, cells_bool, cells_str, cells_ptr, cells_slice, cells_map, Nat.zero_add, Nat.add_zero, and_self, and_true, true_and, List.getElem?_set, R.len, R.t0, R.t5, hv.len, arith, iop, hlt, decide_false] at hE2
    exact ⟨_, hE.trans hE2.symm, by simp -implicitDefEqProofs only [List.length_set, R.len], fun h => absurd he h⟩
  | succ d ih =>
    intro i ts hi R
    have hin : i < l.length := by omega
    have hik : i < k.length := by omega
    have hlt : (i : Int) < (l.length : Int) := by omega
    obtain ⟨p, hp1, hp2, _⟩ := hv.index .i64 (List.getElem?_eq_getElem hin)
    obtain ⟨q, hq1, hq2, _⟩ := hw.index .i64 (List.getElem?_eq_getElem hik)
    rw [esize] at hp1 hp2 hq1 hq2
    have heq := eq_msg true l[i] k[i]
    simp only [Msg.agg, dMsg] at heq
    have hwr := wrap_succ (i := i) hin (by omega)
    have hdl : l.drop i = l[i] :: l.drop (i + 1) := List.drop_eq_getElem_cons hin
    have hdk : k.drop i = k[i] :: k.drop (i + 1) := List.drop_eq_getElem_cons hik
    by_cases hc : l[i] = k[i]
    · have hround : ∃ ts', Exec S tab fn18_l0 ts m = some (.normal, ts', m) ∧ SameR v w (i + 1) ts' := by
        obtain ⟨E, hE⟩ : ∃ E, Exec S tab fn18_l0 ts m = E := ⟨_, rfl⟩
        have hE2 := hE
        rw [hc] at hp2 heq
        simp -implicitDefEqProofs only [fn18_l0, X_seq, X_region, X_cond, X_block, Exec_ret, Exec_skip, Exec_exit, X_cons, X_nil, opsK_some, guardK_true, guardK_false, wanted_none, wanted_some, stepOp, AOp.run, aval, avals, avalO, aparts, plain, putT, runBox, runBuildSlice, List.length_cons, List.length_nil, List.cons_append, List.nil_append, List.replicate_succ, List.replicate_zero, List.length_replicate, Nat.reduceAdd, Nat.reduceSub, Nat.reduceMul, Nat.reduceLT, Nat.reduceLeDiff, Nat.reduceEqDiff, if_true, if_false, reduceIte, Bool.false_eq_true, Bool.true_eq_false, Option.bind_some, Option.map_some, Option.getD_some, List.set_cons_succ, List.set_cons_zero, List.getElem?_cons_succ, List.getElem?_cons_zero, List.length_set, runEqNil, nilKind, bothNil, thenC_normal, thenC_ret, thenC_exit, condK_true, condK_false, mapN_some, mapB_normal, mapB_ret, mapB_exit, leave_ret, leave_normal, resVs, resV, oneOf, Option.isNone_none, Option.isNone_some, runNilck, runFieldAddr, asPtr, runUn, asB, capsOf, Bool.not_true, Bool.not_false, beq_self_eq_true, b_tf, b_ft, cells_agg, cells_int, cells_bool, cells_str, cells_ptr, cells_slice, cells_map, Nat.zero_add, Nat.add_zero, and_self, and_true, true_and, List.getElem?_set, R.len, R.t0, R.t1, R.t5, hv.len, arith, iop, hlt, decide_true, hp1, hp2, hq1, hq2, heq, hwr] at hE2
        exact ⟨_, hE.trans hE2.symm, {
          len := by simp -implicitDefEqProofs only [List.length_set, R.len]
          t0 := by simp -implicitDefEqProofs only [X_seq, X_region, X_cond, X_block, Exec_ret, Exec_skip, Exec_exit, X_cons, X_nil, opsK_some, guardK_true, guardK_false, wanted_none, wanted_some, stepOp, AOp.run, aval, avals, avalO, aparts, plain, putT, runBox, runBuildSlice, List.length_cons, List.length_nil, List.cons_append, List.nil_append, List.replicate_succ, List.replicate_zero, List.length_replicate, Nat.reduceAdd, Nat.reduceSub, Nat.reduceMul, Nat.reduceLT, Nat.reduceLeDiff, Nat.reduceEqDiff, if_true, if_false, reduceIte, Bool.false_eq_true, Bool.true_eq_false, Option.bind_some, Option.map_some, Option.getD_some, List.set_cons_succ, List.set_cons_zero, List.getElem?_cons_succ, List.getElem?_cons_zero, List.length_set, runEqNil, nilKind, bothNil, thenC_normal, thenC_ret, thenC_exit, condK_true, condK_false, mapN_some, mapB_normal, mapB_ret, mapB_exit, leave_ret, leave_normal, resVs, resV, oneOf, Option.isNone_none, Option.isNone_some, runNilck, runFieldAddr, asPtr, runUn, asB, capsOf, Bool.not_true, Bool.not_false, beq_self_eq_true, b_tf, b_ft, cells_agg, cells_int, cells_bool, cells_str, cells_ptr, cells_slice, cells_map, Nat.zero_add, Nat.add_zero, and_self, and_true, true_and, List.getElem?_set, R.len, R.t0]
          t1 := by simp -implicitDefEqProofs only [X_seq, X_region, X_cond, X_block, Exec_ret, Exec_skip, Exec_exit, X_cons, X_nil, opsK_some, guardK_true, guardK_false, wanted_none, wanted_some, stepOp, AOp.run, aval, avals, avalO, aparts, plain, putT, runBox, runBuildSlice, List.length_cons, List.length_nil, List.cons_append, List.nil_append, List.replicate_succ, List.replicate_zero, List.length_replicate, Nat.reduceAdd, Nat.reduceSub, Nat.reduceMul, Nat.reduceLT, Nat.reduceLeDiff, Nat.reduceEqDiff, if_true, if_false, reduceIte, Bool.false_eq_true, Bool.true_eq_false, Option.bind_some, Option.map_some, Option.getD_some, List.set_cons_succ, List.set_cons_zero, List.getElem?_cons_succ, List.getElem?_cons_zero, List.length_set, runEqNil, nilKind, bothNil, thenC_normal, thenC_ret, thenC_exit, condK_true, condK_false, mapN_some, mapB_normal, mapB_ret, mapB_exit, leave_ret, leave_normal, resVs, resV, oneOf, Option.isNone_none, Option.isNone_some, runNilck, runFieldAddr, asPtr, runUn, asB, capsOf, Bool.not_true, Bool.not_false, beq_self_eq_true, b_tf, b_ft, cells_agg, cells_int, cells_bool, cells_str, cells_ptr, cells_slice, cells_map, Nat.zero_add, Nat.add_zero, and_self, and_true, true_and, List.getElem?_set, R.len, R.t1]
          t5 := by simp -implicitDefEqProofs only [X_seq, X_region, X_cond, X_block, Exec_ret, Exec_skip, Exec_exit, X_cons, X_nil, opsK_some, guardK_true, guardK_false, wanted_none, wanted_some, stepOp, AOp.run, aval, avals, avalO, aparts, plain, putT, runBox, runBuildSlice, List.length_cons, List.length_nil, List.cons_append, List.nil_append, List.replicate_succ, List.replicate_zero, List.length_replicate, Nat.reduceAdd, Nat.reduceSub, Nat.reduceMul, Nat.reduceLT, Nat.reduceLeDiff, Nat.reduceEqDiff, if_true, if_false, reduceIte, Bool.false_eq_true, Bool.true_eq_false, Option.bind_some, Option.map_some, Option.getD_some, List.set_cons_succ, List.set_cons_zero, List.getElem?_cons_succ, List.getElem?_cons_zero, List.length_set, runEqNil, nilKind, bothNil, thenC_normal, thenC_ret, thenC_exit, condK_true, condK_false, mapN_some, mapB_normal, mapB_ret, mapB_exit, leave_ret, leave_normal, resVs, resV, oneOf, Option.isNone_none, Option.isNone_some, runNilck, runFieldAddr, asPtr, runUn, asB, capsOf, Bool.not_true, Bool.not_false, beq_self_eq_true, b_tf, b_ft, cells_agg, cells_int, cells_bool, cells_str, cells_ptr, cells_slice, cells_map, Nat.zero_add, Nat.add_zero, and_self, and_true, true_and, List.getElem?_set, R.len, R.t5] }⟩
      obtain ⟨ts', hr1, hr2⟩ := hround
      obtain ⟨ts'', g1, g2, g3⟩ := ih (i + 1) ts' (by omega) hr2
      have hiff : (l.drop i = k.drop i) ↔ (l.drop (i + 1) = k.drop (i + 1)) := by rw [hdl, hdk, hc]; simp only [List.cons.injEq, true_and]
      refine ⟨ts'', ?_, g2, fun h => g3 (fun h' => h (hiff.2 h'))⟩
      rw [X_loop, hr1, thenC_normal, g1]
      by_cases h : l.drop (i + 1) = k.drop (i + 1)
      · rw [if_pos h, if_pos (hiff.2 h)]
      · rw [if_neg h, if_neg (fun h' => h (hiff.1 h'))]
    · have hne : l.drop i ≠ k.drop i := by rw [hdl, hdk]; intro h; exact hc (List.cons.inj h).1
      rw [if_neg hne]
      obtain ⟨E, hE⟩ : ∃ E, Exec S tab (.loop fn18_l0) ts m = E := ⟨_, rfl⟩
      have hE2 := hE
      rw [X_loop] at hE2
      have hcd : decide (l[i] = k[i]) = false := by simpa using hc
      simp -implicitDefEqProofs only [fn18_l0, X_seq, X_region, X_cond, X_block, Exec_ret, Exec_skip, Exec_exit, X_cons, X_nil, opsK_some, guardK_true, guardK_false, wanted_none, wanted_some, stepOp, AOp.run, aval, avals, avalO, aparts, plain, putT, runBox, runBuildSlice, List.length_cons, List.length_nil, List.cons_append, List.nil_append, List.replicate_succ, List.replicate_zero, List.length_replicate, Nat.reduceAdd, Nat.reduceSub, Nat.reduceMul, Nat.reduceLT, Nat.reduceLeDiff, Nat.reduceEqDiff, if_true, if_false, reduceIte, Bool.false_eq_true, Bool.true_eq_false, Option.bind_some, Option.map_some, Option.getD_some, List.set_cons_succ, List.set_cons_zero, List.getElem?_cons_succ, List.getElem?_cons_zero, List.length_set, runEqNil, nilKind, bothNil, thenC_normal, thenC_ret, thenC_exit, condK_true, condK_false, mapN_some, mapB_normal, mapB_ret, mapB_exit, leave_ret, leave_normal, resVs, resV, oneOf, Option.isNone_none, Option.isNone_some, runNilck, runFieldAddr, asPtr, runUn, asB, capsOf, Bool.not_true, Bool.not_false, beq_self_eq_true, b_tf, b_ft, cells_agg, cells_int, cells_bool, cells_str, cells_ptr, cells_slice, cells_map, Nat.zero_add, Nat.add_zero, and_self, and_true, true_and, List.getElem?_set, R.len, R.t0, R.t1, R.t5, hv.len, arith, iop, hlt, decide_true, hp1, hp2, hq1, hq2, heq, hcd, hwr] at hE2
      exact ⟨_, hE.trans hE2.symm, by simp -implicitDefEqProofs only [List.length_set, R.len], fun _ => by simp -implicitDefEqProofs only [X_seq, X_region, X_cond, X_block, Exec_ret, Exec_skip, Exec_exit, X_cons, X_nil, opsK_some, guardK_true, guardK_false, wanted_none, wanted_some, stepOp, AOp.run, aval, avals, avalO, aparts, plain, putT, runBox, runBuildSlice, List.length_cons, List.length_nil, List.cons_append, List.nil_append, List.replicate_succ, List.replicate_zero, List.length_replicate, Nat.reduceAdd, Nat.reduceSub, Nat.reduceMul, Nat.reduceLT, Nat.reduceLeDiff, Nat.reduceEqDiff, if_true, if_false, reduceIte, Bool.false_eq_true, Bool.true_eq_false, Option.bind_some, Option.map_some, Option.getD_some, List.set_cons_succ, List.set_cons_zero, List.getElem?_cons_succ, List.getElem?_cons_zero, List.length_set, runEqNil, nilKind, bothNil, thenC_normal, thenC_ret, thenC_exit, condK_true, condK_false, mapN_some, mapB_normal, mapB_ret, mapB_exit, leave_ret, leave_normal, resVs, resV, oneOf, Option.isNone_none, Option.isNone_some, runNilck, runFieldAddr, asPtr, runUn, asB, capsOf, Bool.not_true, Bool.not_false, beq_self_eq_true, b_tf, b_ft, cells_agg, cells_int, cells_bool, cells_str, cells_ptr, cells_slice, cells_map, Nat.zero_add, Nat.add_zero, and_self, and_true, true_and, List.getElem?_set, R.len]⟩

theorem same_ok {m : Mem} {v w : Value} {l k : List Msg} (hv : TSl encMsg m v l) (hw : TSl encMsg m w k) (hn : l.length ≤ 2 ^ 20) : Call S tab 18 [v, w] m = some (.bool (decide (l = k)), m) := by
  rw [eq18]
  by_cases hl : l.length = k.length
  · have b1 : ((l.length : Int) != (k.length : Int)) = false := by simp [hl]
    obtain ⟨ts, h1, h2, h3⟩ := same_loop hv hw hl hn l.length 0 [v, w, undef, undef, .bool false, .int .i64 0, v, .int .i64 l.length, w, .int .i64 k.length, .bool false, undef, undef, undef, undef, undef, undef, undef, undef, undef, undef, undef, undef, undef, undef, undef] (by omega) ⟨rfl, rfl, rfl, rfl⟩
    by_cases hc : l = k
    · have hd : (l.drop 0 = k.drop 0) := by simpa using hc
      rw [if_pos hd] at h1
      simp -implicitDefEqProofs only [fn18, X_seq, X_region, X_cond, X_block, Exec_ret, Exec_skip, Exec_exit, X_cons, X_nil, opsK_some, guardK_true, guardK_false, wanted_none, wanted_some, stepOp, AOp.run, aval, avals, avalO, aparts, plain, putT, runBox, runBuildSlice, List.length_cons, List.length_nil, List.cons_append, List.nil_append, List.replicate_succ, List.replicate_zero, List.length_replicate, Nat.reduceAdd, Nat.reduceSub, Nat.reduceMul, Nat.reduceLT, Nat.reduceLeDiff, Nat.reduceEqDiff, if_true, if_false, reduceIte, Bool.false_eq_true, Bool.true_eq_false, Option.bind_some, Option.map_some, Option.getD_some, List.set_cons_succ, List.set_cons_zero, List.getElem?_cons_succ, List.getElem?_cons_zero, List.length_set, runEqNil, nilKind, bothNil, thenC_normal, thenC_ret, thenC_exit, condK_true, condK_false, mapN_some, mapB_normal, mapB_ret, mapB_exit, leave_ret, leave_normal, resVs, resV, oneOf, Option.isNone_none, Option.isNone_some, runNilck, runFieldAddr, asPtr, runUn, asB, capsOf, Bool.not_true, Bool.not_false, beq_self_eq_true, b_tf, b_ft, cells_agg, cells_int, cells_bool, cells_str, cells_ptr, cells_slice, cells_map, Nat.zero_add, Nat.add_zero, and_self, and_true, true_and, hv.len, hw.len, arith, iop, b1, h1, h2, List.getElem?_set, (show decide (l = k) = true by simpa using hc)]
    · have hd : ¬ (l.drop 0 = k.drop 0) := by simpa using hc
      rw [if_neg hd] at h1
      simp -implicitDefEqProofs only [fn18, X_seq, X_region, X_cond, X_block, Exec_ret, Exec_skip, Exec_exit, X_cons, X_nil, opsK_some, guardK_true, guardK_false, wanted_none, wanted_some, stepOp, AOp.run, aval, avals, avalO, aparts, plain, putT, runBox, runBuildSlice, List.length_cons, List.length_nil, List.cons_append, List.nil_append, List.replicate_succ, List.replicate_zero, List.length_replicate, Nat.reduceAdd, Nat.reduceSub, Nat.reduceMul, Nat.reduceLT, Nat.reduceLeDiff, Nat.reduceEqDiff, if_true, if_false, reduceIte, Bool.false_eq_true, Bool.true_eq_false, Option.bind_some, Option.map_some, Option.getD_some, List.set_cons_succ, List.set_cons_zero, List.getElem?_cons_succ, List.getElem?_cons_zero, List.length_set, runEqNil, nilKind, bothNil, thenC_normal, thenC_ret, thenC_exit, condK_true, condK_false, mapN_some, mapB_normal, mapB_ret, mapB_exit, leave_ret, leave_normal, resVs, resV, oneOf, Option.isNone_none, Option.isNone_some, runNilck, runFieldAddr, asPtr, runUn, asB, capsOf, Bool.not_true, Bool.not_false, beq_self_eq_true, b_tf, b_ft, cells_agg, cells_int, cells_bool, cells_str, cells_ptr, cells_slice, cells_map, Nat.zero_add, Nat.add_zero, and_self, and_true, true_and, hv.len, hw.len, arith, iop, b1, h1, h2, h3 hd, List.getElem?_set, (show decide (l = k) = false by simpa using hc)]
  · have b1 : ((l.length : Int) != (k.length : Int)) = true := by simp; omega
    have hc : ¬ l = k := fun h => hl (by rw [h])
    simp -implicitDefEqProofs only [fn18, X_seq, X_region, X_cond, X_block, Exec_ret, Exec_skip, Exec_exit, X_cons, X_nil, opsK_some, guardK_true, guardK_false, wanted_none, wanted_some, stepOp, AOp.run, aval, avals, avalO, aparts, plain, putT, runBox, runBuildSlice, List.length_cons, List.length_nil, List.cons_append, List.nil_append, List.replicate_succ, List.replicate_zero, List.length_replicate, Nat.reduceAdd, Nat.reduceSub, Nat.reduceMul, Nat.reduceLT, Nat.reduceLeDiff, Nat.reduceEqDiff, if_true, if_false, reduceIte, Bool.false_eq_true, Bool.true_eq_false, Option.bind_some, Option.map_some, Option.getD_some, List.set_cons_succ, List.set_cons_zero, List.getElem?_cons_succ, List.getElem?_cons_zero, List.length_set, runEqNil, nilKind, bothNil, thenC_normal, thenC_ret, thenC_exit, condK_true, condK_false, mapN_some, mapB_normal, mapB_ret, mapB_exit, leave_ret, leave_normal, resVs, resV, oneOf, Option.isNone_none, Option.isNone_some, runNilck, runFieldAddr, asPtr, runUn, asB, capsOf, Bool.not_true, Bool.not_false, beq_self_eq_true, b_tf, b_ft, cells_agg, cells_int, cells_bool, cells_str, cells_ptr, cells_slice, cells_map, Nat.zero_add, Nat.add_zero, and_self, and_true, true_and, hv.len, hw.len, arith, iop, b1, (show decide (l = k) = false by simpa using hc)]

theorem early_ok {m : Mem} {v : Value} {l : List Msg} (h : TSl encMsg m v l) (hn : l.length ≤ maxLen) :
    ∃ v', Call S tab 13 [v] m = some (v', m) ∧ TSl encMsg m v' (l.take 300) ∧ blkOf v' = blkOf v := by
  obtain ⟨v', h1, h2, h3⟩ := h.upto (k := min l.length 300) (Nat.min_le_left ..)
  have ht : l.take (min l.length 300) = l.take 300 := by
    rcases Nat.le_total l.length 300 with h | h
    · rw [Nat.min_eq_left h, List.take_length, List.take_of_length_le h]
    · rw [Nat.min_eq_right h]
  rw [ht] at h2
  have hmin : min2 (.int .i64 l.length) (.int .i64 300) = some (.int .i64 ((min l.length 300 : Nat) : Int)) := by
    simp only [min2]
    congr 2
    split <;> omega
  rw [esize] at h1
  refine ⟨v', ?_, h2, h3⟩
  rw [eq13]
  simp -implicitDefEqProofs only [fn13, X_seq, X_region, X_cond, X_block, Exec_ret, Exec_skip, Exec_exit, X_cons, X_nil, opsK_some, guardK_true, guardK_false, wanted_none, wanted_some, stepOp, AOp.run, aval, avals, avalO, aparts, plain, putT, runBox, runBuildSlice, List.length_cons, List.length_nil, List.cons_append, List.nil_append, List.replicate_succ, List.replicate_zero, List.length_replicate, Nat.reduceAdd, Nat.reduceSub, Nat.reduceMul, Nat.reduceLT, Nat.reduceLeDiff, Nat.reduceEqDiff, if_true, if_false, reduceIte, Bool.false_eq_true, Bool.true_eq_false, Option.bind_some, Option.map_some, Option.getD_some, List.set_cons_succ, List.set_cons_zero, List.getElem?_cons_succ, List.getElem?_cons_zero, List.length_set, runEqNil, nilKind, bothNil, thenC_normal, thenC_ret, thenC_exit, condK_true, condK_false, mapN_some, mapB_normal, mapB_ret, mapB_exit, leave_ret, leave_normal, resVs, resV, oneOf, Option.isNone_none, Option.isNone_some, runNilck, runFieldAddr, asPtr, runUn, asB, capsOf, Bool.not_true, Bool.not_false, beq_self_eq_true, b_tf, b_ft, cells_agg, cells_int, cells_bool, cells_str, cells_ptr, cells_slice, cells_map, Nat.zero_add, Nat.add_zero, and_self, and_true, true_and, h.len, foldV, hmin, h1]

end Go.Fx.Try
