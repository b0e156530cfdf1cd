/- Duty: Delete, Leave. -/
import Derived.Test.YtbihanbnnhipjaaDutyC
namespace Go.Fx.Try
open Go Go.Fx
set_option linter.unusedSimpArgs false
set_option linter.unusedVariables false

theorem iflat_len (l : List Int) : (encI.flat l).length = l.length := by rw [Enc.flat_len, isize, Nat.mul_one]

theorem delete_ok {m : Mem} {v : Value} {A D : List Int} {x : Int} (h : TRm encI 3 m v (A ++ x :: D)) (hn : (A ++ x :: D).length ≤ 2 ^ 40) :
    ∃ v' m', Call S tab 42 [v, .int .i64 A.length, .int .i64 ((A.length + 1 : Nat) : Int)] m = some (v', m') ∧ TRm encI 3 m' v' (A ++ D) ∧ blkOf v' = blkOf v ∧ Upd (blkOf v) m m' := by
  have hl0 : (A ++ x :: D).length = A.length + D.length + 1 := by simp; omega
  rw [hl0] at hn
  rcases h with ⟨_, h⟩ | ⟨b, cap, rest, rfl, hb, hg, hr, hc⟩
  · simp at h
  rw [hl0] at hr hc ⊢
  rw [isize] at hr hg
  have hfl : encI.flat (A ++ x :: D) ++ rest = encI.flat A ++ ([Value.int .i64 x] ++ (encI.flat D ++ rest)) := by
    rw [Enc.flat_append, Enc.flat_cons, icells]; simp
  rw [hfl] at hg
  generalize hA : encI.flat A = FA at hg
  have hAl : FA.length = A.length := by rw [← hA, iflat_len]
  have hDl := iflat_len D
  have hk : m.known b = .loose 1 := by simp [Mem.known, hg]
  have hcl : (FA ++ ([Value.int .i64 x] ++ (encI.flat D ++ rest))).length = cap := by simp [hAl, hDl, hr]; omega
  -- the check
  have hs3 : ∃ y, runSlice3 1 (.slice (some ⟨b, 0, none⟩) (A.length + D.length + 1) cap) (some (.int .i64 A.length)) (some (.int .i64 ((A.length + 1 : Nat) : Int))) (.int .i64 ((A.length + D.length + 1 : Nat) : Int)) m = some y := by
    have h1 : (0 : Int) ≤ ((A.length + D.length + 1 : Nat) : Int) ∧ ((A.length + D.length + 1 : Nat) : Int) ≤ (cap : Int) ∧ A.length + D.length + 1 ≤ cap := by omega
    have h2 : (0 : Int) ≤ ((A.length + 1 : Nat) : Int) ∧ ((A.length + 1 : Nat) : Int) ≤ ((A.length + D.length + 1 : Nat) : Int) := by omega
    have h3 : (0 : Int) ≤ (A.length : Int) ∧ (A.length : Int) ≤ ((A.length + 1 : Nat) : Int) := by omega
    exact ⟨_, by simp only [runSlice3, if_pos h1, boundsV, boundV, Int.toNat_natCast, if_pos h2, Option.bind_some, if_pos h3, Option.map_some, hk, or_true, if_true]; rfl⟩
  obtain ⟨y, hs3⟩ := hs3
  have b1 : ((A.length : Int) == ((A.length + 1 : Nat) : Int)) = false := by simp; omega
  have hs1 : runSliceS 1 (.slice (some ⟨b, 0, none⟩) (A.length + D.length + 1) cap) none (some (.int .i64 A.length)) m = some (.slice (some ⟨b, 0, none⟩) A.length cap) := by
    have h1 : (0 : Int) ≤ (A.length : Int) ∧ (A.length : Int) ≤ (cap : Int) := by omega
    simp only [runSliceS, boundsV, boundV, if_pos h1, Option.bind_some, Option.map_some, Int.toNat_natCast]
    simp
  obtain ⟨off, hoff⟩ : ∃ off, off = if cap = A.length + 1 then 0 else 0 + (A.length + 1) * 1 := ⟨_, rfl⟩
  have hs2 : runSliceS 1 (.slice (some ⟨b, 0, none⟩) (A.length + D.length + 1) cap) (some (.int .i64 ((A.length + 1 : Nat) : Int))) none m = some (.slice (some ⟨b, off, none⟩) D.length (cap - (A.length + 1))) := by
    have h1 : (0 : Int) ≤ ((A.length + 1 : Nat) : Int) ∧ ((A.length + 1 : Nat) : Int) ≤ ((A.length + D.length + 1 : Nat) : Int) := by omega
    simp only [runSliceS, boundsV, boundV, if_pos h1, Option.bind_some, Option.map_some, Int.toNat_natCast, hk, or_true, if_true, ← hoff]
    rw [show A.length + D.length + 1 - (A.length + 1) = D.length by omega]
  have hsrc : runSrc 1 (.slice (some ⟨b, off, none⟩) D.length (cap - (A.length + 1))) m = some (D.length, encI.flat D) := by
    by_cases hD : D.length = 0
    · have : D = [] := by simpa using hD
      subst this
      simp [runSrc, Enc.flat]
    · have ho : off = A.length + 1 := by rw [hoff, if_neg (by omega)]; omega
      have hle : off + D.length * 1 ≤ (FA ++ ([Value.int .i64 x] ++ (encI.flat D ++ rest))).length := by rw [hcl]; omega
      simp only [runSrc, if_neg hD, cellsAt_of_get hg, Option.bind_some, if_pos hle]
      rw [ho, ← List.append_assoc, show A.length + 1 = (FA ++ [Value.int .i64 x]).length by simp [hAl], List.drop_left, Nat.mul_one, ← hDl, List.take_left]
  -- the piece behind is put in the place
  obtain ⟨z, hz⟩ : ∃ z, ([Value.int .i64 x] ++ (encI.flat D ++ rest)).drop D.length = z :: rest := by
    have hlen : (([Value.int .i64 x] ++ encI.flat D).drop D.length).length = 1 := by simp [hDl]
    match hz : ([Value.int .i64 x] ++ encI.flat D).drop D.length, hlen with
    | [z], _ => exact ⟨z, by rw [← List.append_assoc, List.drop_append_of_le_length (by simp [hDl]), hz]; rfl⟩
  have hset1 : setRange (FA ++ ([Value.int .i64 x] ++ (encI.flat D ++ rest))) A.length (encI.flat D) = FA ++ (encI.flat D ++ (z :: rest)) := by
    have := setRange_append FA (([Value.int .i64 x] ++ (encI.flat D ++ rest)).take D.length) (([Value.int .i64 x] ++ (encI.flat D ++ rest)).drop D.length) (encI.flat D) (by simp [hDl]; omega)
    rw [List.take_append_drop, hz, hAl] at this
    exact this
  have hap : ∃ m1, runAppend 3 1 8 (.slice (some ⟨b, 0, none⟩) A.length cap) D.length (encI.flat D) m = some (.slice (some ⟨b, 0, none⟩) (A.length + D.length) cap, m1) ∧ m1.get b = some ⟨.cells (FA ++ (encI.flat D ++ (z :: rest))) 3, false, some 1⟩ ∧ Upd [b] m m1 ∧ m1.next = m.next := by
    have hc0 : ¬ ¬ ((A.length + D.length) * 8 ≤ 2 ^ 47 ∧ (A.length + D.length) ≤ 2 ^ 47 ∧ (encI.flat D).length = D.length * 1 ∧ (encI.flat D).all (·.oneCell') = true) := by
      simp only [Decidable.not_not]; exact ⟨by omega, by omega, by omega, Enc.flat_all _ _⟩
    have hfit : A.length + D.length ≤ cap := by omega
    by_cases hD : D.length * 1 = 0
    · have : D = [] := by simpa using hD
      subst this
      refine ⟨m, by simp only [runAppend, if_neg hc0, if_pos hfit, if_pos hD], ?_, Upd.refl _ _, rfl⟩
      rw [hg]
      simp [Enc.flat] at hz
      simp [Enc.flat, hz]
    · refine ⟨m.put b ⟨.cells (FA ++ (encI.flat D ++ (z :: rest))) 3, false, some 1⟩, ?_, Mem.get_put_self .., Upd.put _ _ (by simp), rfl⟩
      have how : m.ownAt b = some (FA ++ ([Value.int .i64 x] ++ (encI.flat D ++ rest)), 3, some 1) := by simp [Mem.ownAt, hg]
      have hcond : 0 + (A.length + D.length) * 1 ≤ (FA ++ ([Value.int .i64 x] ++ (encI.flat D ++ rest))).length ∧ cap ≠ 0 := by rw [hcl]; omega
      simp only [runAppend, if_neg hc0, if_pos hfit, if_neg hD, how, Option.bind_some]
      rw [if_pos hcond, show 0 + A.length * 1 = A.length by omega, hset1]
  obtain ⟨m1, ha1, ha2, ha3, ha4⟩ := hap
  have hk1 : m1.known b = .loose 1 := by simp [Mem.known, ha2]
  have hs4 : runSliceS 1 (.slice (some ⟨b, 0, none⟩) (A.length + D.length) cap) (some (.int .i64 ((A.length + D.length : Nat) : Int))) (some (.int .i64 ((A.length + D.length + 1 : Nat) : Int))) m1 = some (.slice (some ⟨b, A.length + D.length, none⟩) 1 (cap - (A.length + D.length))) := by
    have h1 : (0 : Int) ≤ ((A.length + D.length + 1 : Nat) : Int) ∧ ((A.length + D.length + 1 : Nat) : Int) ≤ (cap : Int) := by omega
    have h2 : (0 : Int) ≤ ((A.length + D.length : Nat) : Int) ∧ ((A.length + D.length : Nat) : Int) ≤ ((A.length + D.length + 1 : Nat) : Int) := by omega
    have h3 : ¬ cap = A.length + D.length := by omega
    simp only [runSliceS, boundsV, boundV, if_pos h1, Int.toNat_natCast, if_pos h2, Option.bind_some, Option.map_some, hk1, or_true, if_true, if_neg h3]
    rw [show A.length + D.length + 1 - (A.length + D.length) = 1 by omega, show 0 + (A.length + D.length) * 1 = A.length + D.length by omega]
  have hcl1 : runClear [.int .i64 0] (.slice (some ⟨b, A.length + D.length, none⟩) 1 (cap - (A.length + D.length))) m1 = some (m1.put b ⟨.cells (encI.flat (A ++ D) ++ (.int .i64 0 :: rest)) 3, false, some 1⟩) := by
    have how : m1.ownAt b = some (FA ++ (encI.flat D ++ (z :: rest)), 3, some 1) := by simp [Mem.ownAt, ha2]
    have hcond : A.length + D.length + 1 * [Value.int .i64 0].length ≤ (FA ++ (encI.flat D ++ (z :: rest))).length ∧ cap - (A.length + D.length) ≠ 0 ∧ [Value.int .i64 0].all (·.oneCell') = true := by
      refine ⟨?_, by omega, rfl⟩
      simp [hAl, hDl]; omega
    have hset2 := setRange_append (FA ++ encI.flat D) [z] rest [.int .i64 0] rfl
    rw [List.append_assoc, show (FA ++ encI.flat D).length = A.length + D.length by rw [List.length_append, hAl, hDl]] at hset2
    simp only [List.cons_append, List.nil_append] at hset2
    simp only [runClear, how, Option.bind_some]
    rw [if_neg (by omega), if_pos hcond]
    simp only [List.replicate_succ, List.replicate_zero, List.flatten_cons, List.flatten_nil, List.append_nil]
    rw [hset2, Enc.flat_append, hA]
  have hw1 : runLenSlice (.slice (some ⟨b, 0, none⟩) (A.length + D.length + 1) cap) = some (.int .i64 ((A.length + D.length + 1 : Nat) : Int)) := rfl
  have hw2 : runLenSlice (.slice (some ⟨b, 0, none⟩) (A.length + D.length) cap) = some (.int .i64 ((A.length + D.length : Nat) : Int)) := rfl
  refine ⟨.slice (some ⟨b, 0, none⟩) (A.length + D.length) cap, m1.put b ⟨.cells (encI.flat (A ++ D) ++ (.int .i64 0 :: rest)) 3, false, some 1⟩, ?_, .inr ⟨b, cap, .int .i64 0 :: rest, by simp, by show b < m1.next; omega, Mem.get_put_self .., ?_, ?_⟩, rfl, ha3.trans (Upd.put _ _ (by simp))⟩
  · rw [eq42]
    simp -implicitDefEqProofs only [fn42, X_seq, X_region, X_cond, X_block, Exec_ret, Exec_skip, Exec_exit, X_cons, X_nil, opsK_some, guardK_true, guardK_false, wanted_none, wanted_some, stepOp, AOp.run, aval, avals, avalO, aparts, plain, putT, runBox, runBuildSlice, List.length_cons, List.length_nil, List.cons_append, List.nil_append, List.replicate_succ, List.replicate_zero, List.length_replicate, Nat.reduceAdd, Nat.reduceSub, Nat.reduceMul, Nat.reduceLT, Nat.reduceLeDiff, Nat.reduceEqDiff, if_true, if_false, reduceIte, Bool.false_eq_true, Bool.true_eq_false, Option.bind_some, Option.map_some, Option.getD_some, List.set_cons_succ, List.set_cons_zero, List.getElem?_cons_succ, List.getElem?_cons_zero, List.length_set, List.getElem?_toArray, runEqNil, nilKind, bothNil, thenC_normal, thenC_ret, thenC_exit, condK_true, condK_false, mapN_some, mapB_normal, mapB_ret, mapB_exit, leave_ret, leave_normal, resVs, resV, oneOf, Option.isNone_none, Option.isNone_some, runNilck, runFieldAddr, asPtr, runUn, asB, capsOf, Bool.not_true, Bool.not_false, beq_self_eq_true, b_tf, b_ft, cells_agg, cells_int, cells_bool, cells_str, cells_ptr, cells_slice, cells_map, Nat.zero_add, Nat.add_zero, and_self, and_true, true_and, hw1, hs3, arith, iop, b1, hs1, hs2, hsrc, ha1, hw2, hs4, hcl1]
  · rw [isize]; simp [hr]; omega
  · simp; omega

/-- Leave. -/
theorem leave_ok {m : Mem} {q : Value} {B : List Nat} {l : List Int} (id : Int) (h : QAt m q B l) (hn : l.length ≤ 2 ^ 40) :
    ∃ m', Call S tab 28 [q, .int .i64 id] m = some (.bool (decide (id ∈ l)), m') ∧ QAt m' q B (l.erase id) ∧ Upd B m m' := by
  have hw := waits_ok id h hn
  rcases atFrom_spec id l 0 with ⟨h1, h2⟩ | ⟨j, hj, h1, h2, h3⟩
  · rw [h1] at hw
    have hd : decide ((-1 : Int) < 0) = true := by decide
    refine ⟨m, ?_, by rw [List.erase_of_not_mem h2]; exact h, Upd.refl _ _⟩
    rw [show decide (id ∈ l) = false by simpa using h2, eq28]
    simp -implicitDefEqProofs only [fn28, X_seq, X_region, X_cond, X_block, Exec_ret, Exec_skip, Exec_exit, X_cons, X_nil, opsK_some, guardK_true, guardK_false, wanted_none, wanted_some, stepOp, AOp.run, aval, avals, avalO, aparts, plain, putT, runBox, runBuildSlice, List.length_cons, List.length_nil, List.cons_append, List.nil_append, List.replicate_succ, List.replicate_zero, List.length_replicate, Nat.reduceAdd, Nat.reduceSub, Nat.reduceMul, Nat.reduceLT, Nat.reduceLeDiff, Nat.reduceEqDiff, if_true, if_false, reduceIte, Bool.false_eq_true, Bool.true_eq_false, Option.bind_some, Option.map_some, Option.getD_some, List.set_cons_succ, List.set_cons_zero, List.getElem?_cons_succ, List.getElem?_cons_zero, List.length_set, List.getElem?_toArray, runEqNil, nilKind, bothNil, thenC_normal, thenC_ret, thenC_exit, condK_true, condK_false, mapN_some, mapB_normal, mapB_ret, mapB_exit, leave_ret, leave_normal, resVs, resV, oneOf, Option.isNone_none, Option.isNone_some, runNilck, runFieldAddr, asPtr, runUn, asB, capsOf, Bool.not_true, Bool.not_false, beq_self_eq_true, b_tf, b_ft, cells_agg, cells_int, cells_bool, cells_str, cells_ptr, cells_slice, cells_map, Nat.zero_add, Nat.add_zero, and_self, and_true, true_and, hw, arith, iop, hd]
  · have hmem := List.mem_of_getElem? h2
    rw [h1, Nat.zero_add] at hw
    have hd : decide ((j : Int) < 0) = false := by simp
    have hsplit : l = l.take j ++ id :: l.drop (j + 1) := by
      obtain ⟨hj', e⟩ := List.getElem?_eq_some_iff.1 h2
      rw [← e, ← List.drop_eq_getElem_cons hj', List.take_append_drop]
    have hera : l.erase id = l.take j ++ l.drop (j + 1) := by rw [← h3, List.eraseIdx_eq_take_drop_succ]
    have hlj : (l.take j).length = j := by rw [List.length_take]; omega
    obtain ⟨bq, v, rfl, rfl, g1, g2, g3, g4⟩ := h
    rw [hsplit] at g4
    obtain ⟨v', m1, d1, d2, d3, d4⟩ := delete_ok g4 (by rw [← hsplit]; exact hn)
    rw [hlj] at d1
    rw [hera]
    have hv := load_at (o := 0) g3 (v := v) rfl
    have hw1 : IntKind.i64.wrap ((j : Int) + 1) = ((j + 1 : Nat) : Int) := by rw [wrap_in (by omega) (by omega)]; rfl
    have g31 : m1.get bq = some ⟨.cells [v] 77, false, none⟩ := by rw [d4.same bq g1 g2]; exact g3
    obtain ⟨hc1, hc2⟩ := d2.one
    have hst := store_at (o := 0) (v := v') g31 (by simp) hc1 hc2
    have hset : [v].set 0 v' = [v'] := rfl
    rw [hset] at hst
    have hu3 : Upd [bq] m1 (m1.put bq ⟨.cells [v'] 77, false, none⟩) := Upd.put _ _ (by simp)
    have hn1 := d4.next
    refine ⟨m1.put bq ⟨.cells [v'] 77, false, none⟩, ?_, ⟨bq, v', rfl, by rw [d3], by show bq < m1.next; omega, by rw [d3]; exact g2, Mem.get_put_self .., d2.upd hu3 (fun b hb hb' => by rw [d3] at hb; simp at hb'; subst hb'; exact g2 hb)⟩, (d4.mono (fun b hb _ => by simp [hb])).trans (hu3.mono (fun b hb _ => by simp at hb; simp [hb]))⟩
    rw [show decide (id ∈ l) = true by simpa using hmem, eq28]
    simp -implicitDefEqProofs only [fn28, X_seq, X_region, X_cond, X_block, Exec_ret, Exec_skip, Exec_exit, X_cons, X_nil, opsK_some, guardK_true, guardK_false, wanted_none, wanted_some, stepOp, AOp.run, aval, avals, avalO, aparts, plain, putT, runBox, runBuildSlice, List.length_cons, List.length_nil, List.cons_append, List.nil_append, List.replicate_succ, List.replicate_zero, List.length_replicate, Nat.reduceAdd, Nat.reduceSub, Nat.reduceMul, Nat.reduceLT, Nat.reduceLeDiff, Nat.reduceEqDiff, if_true, if_false, reduceIte, Bool.false_eq_true, Bool.true_eq_false, Option.bind_some, Option.map_some, Option.getD_some, List.set_cons_succ, List.set_cons_zero, List.getElem?_cons_succ, List.getElem?_cons_zero, List.length_set, List.getElem?_toArray, runEqNil, nilKind, bothNil, thenC_normal, thenC_ret, thenC_exit, condK_true, condK_false, mapN_some, mapB_normal, mapB_ret, mapB_exit, leave_ret, leave_normal, resVs, resV, oneOf, Option.isNone_none, Option.isNone_some, runNilck, runFieldAddr, asPtr, runUn, asB, capsOf, Bool.not_true, Bool.not_false, beq_self_eq_true, b_tf, b_ft, cells_agg, cells_int, cells_bool, cells_str, cells_ptr, cells_slice, cells_map, Nat.zero_add, Nat.add_zero, and_self, and_true, true_and, hw, arith, iop, hd, hv, hw1, d1, hst]

end Go.Fx.Try
