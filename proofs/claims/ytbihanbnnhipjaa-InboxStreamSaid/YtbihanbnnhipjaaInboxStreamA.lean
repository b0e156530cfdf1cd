/- Inbox: Takes with a box; the law InboxStream on the abstract machine. -/
import Derived.Test.YtbihanbnnhipjaaInboxOnceA
namespace Go.Fx.Try
open Go Go.Fx
set_option linter.unusedSimpArgs false
set_option linter.unusedVariables false

def verds : List Msg → List Msg → List Nat
  | _, [] => []
  | taken, a :: l => verd taken a :: verds (took taken a) l

structure TsR (l : Value) (L : List Msg) (p : Value) (i : Nat) (ts : List Value) (m : Mem) (B : List Nat) (out : Value) (os : List Int) (taken : List Msg) (hist : List Nat) : Prop where
  len : ts.length = 22
  t0 : ts[0]? = some p
  t5 : ts[5]? = some out
  t8 : ts[8]? = some l
  t9 : ts[9]? = some (.int .i64 L.length)
  t10 : ts[10]? = some (.int .i64 i)
  box : BoxAt m p B taken hist
  own : TOwn (encInt .i64) 33 m out os
  dis : ∀ b ∈ blkOf out, b ∉ B
  sl : TSl encMsg m l L
  slt : ∀ b ∈ blkOf l, b < m.next ∧ b ∉ B ∧ b ∉ blkOf out
  ol : os.length = i
  tl : taken.length ≤ 2 ^ 16 + i
  hl : hist.length ≤ 2 ^ 16 + i

theorem takes_all_loop (l : Value) (L : List Msg) (p : Value) (hL : L.length ≤ 1000) : ∀ (d i : Nat) (ts : List Value) (m : Mem) (B : List Nat) (out : Value) (os : List Int) (taken : List Msg) (hist : List Nat), i + d = L.length → TsR l L p i ts m B out os taken hist →
    ∃ ts' m' B' out' os', Exec S tab (.loop fn21_l0) ts m = some (.exit 0, ts', m') ∧ TsR l L p L.length ts' m' B' out' os' ((L.drop i).foldl took taken) (hist ++ verds taken (L.drop i)) ∧ Upd (B ++ blkOf out) m m' ∧ ∀ b ∈ B', b ∈ B ∨ m.next ≤ b := by
  intro d
  induction d with
  | zero =>
    intro i ts m B out os taken hist hi R
    obtain rfl : i = L.length := by omega
    have hlt : ¬ ((L.length : Int) < (L.length : Int)) := by omega
    obtain ⟨E, hE⟩ : ∃ E, Exec S tab (.loop fn21_l0) ts m = E := ⟨_, rfl⟩
    have hE2 := hE
    rw [X_loop] at hE2
    simp -implicitDefEqProofs only [fn21_l0, X_seq, X_region, X_cond, X_block, Exec_ret, Exec_skip, Exec_exit, X_cons, X_nil, opsK_some, guardK_true, guardK_false, wanted_none, wanted_some, stepOp, AOp.run, aval, avals, avalO, aparts, plain, putT, runBox, runBuildSlice, List.length_cons, List.length_nil, List.cons_append, List.nil_append, List.replicate_succ, List.replicate_zero, List.length_replicate, Nat.reduceAdd, Nat.reduceSub, Nat.reduceMul, Nat.reduceLT, Nat.reduceLeDiff, Nat.reduceEqDiff, if_true, if_false, reduceIte, Bool.false_eq_true, Bool.true_eq_false, Option.bind_some, Option.map_some, Option.getD_some, List.set_cons_succ, List.set_cons_zero, List.getElem?_cons_succ, List.getElem?_cons_zero, List.length_set, List.getElem?_toArray, runEqNil, nilKind, bothNil, thenC_normal, thenC_ret, thenC_exit, condK_true, condK_false, mapN_some, mapB_normal, mapB_ret, mapB_exit, leave_ret, leave_normal, resVs, resV, oneOf, Option.isNone_none, Option.isNone_some, runNilck, runFieldAddr, asPtr, runUn, asB, capsOf, Bool.not_true, Bool.not_false, beq_self_eq_true, b_tf, b_ft, cells_agg, cells_int, cells_bool, cells_str, cells_ptr, cells_slice, cells_map, Nat.zero_add, Nat.add_zero, and_self, and_true, true_and, List.getElem?_set, R.len, R.t9, R.t10, arith, iop, hlt, decide_false] at hE2
    rw [List.drop_length]
    refine ⟨_, m, B, out, os, hE.trans hE2.symm, { box := by simpa [verds] using R.box, own := R.own, dis := R.dis, sl := R.sl, slt := R.slt, ol := R.ol, tl := R.tl, hl := by simpa [verds] using R.hl, len := ?_, t0 := ?_, t5 := ?_, t8 := ?_, t9 := ?_, t10 := ?_ }, Upd.refl _ _, fun b hb => .inl hb⟩ <;>
      simp -implicitDefEqProofs only [X_seq, X_region, X_cond, X_block, Exec_ret, Exec_skip, Exec_exit, X_cons, X_nil, opsK_some, guardK_true, guardK_false, wanted_none, wanted_some, stepOp, AOp.run, aval, avals, avalO, aparts, plain, putT, runBox, runBuildSlice, List.length_cons, List.length_nil, List.cons_append, List.nil_append, List.replicate_succ, List.replicate_zero, List.length_replicate, Nat.reduceAdd, Nat.reduceSub, Nat.reduceMul, Nat.reduceLT, Nat.reduceLeDiff, Nat.reduceEqDiff, if_true, if_false, reduceIte, Bool.false_eq_true, Bool.true_eq_false, Option.bind_some, Option.map_some, Option.getD_some, List.set_cons_succ, List.set_cons_zero, List.getElem?_cons_succ, List.getElem?_cons_zero, List.length_set, List.getElem?_toArray, runEqNil, nilKind, bothNil, thenC_normal, thenC_ret, thenC_exit, condK_true, condK_false, mapN_some, mapB_normal, mapB_ret, mapB_exit, leave_ret, leave_normal, resVs, resV, oneOf, Option.isNone_none, Option.isNone_some, runNilck, runFieldAddr, asPtr, runUn, asB, capsOf, Bool.not_true, Bool.not_false, beq_self_eq_true, b_tf, b_ft, cells_agg, cells_int, cells_bool, cells_str, cells_ptr, cells_slice, cells_map, Nat.zero_add, Nat.add_zero, and_self, and_true, true_and, List.getElem?_set, R.len, R.t0, R.t5, R.t8, R.t9, R.t10]
  | succ d ih =>
    intro i ts m B out os taken hist hi R
    have hin : i < L.length := by omega
    have hlt : (i : Int) < (L.length : Int) := by omega
    have hdl : L.drop i = L[i] :: L.drop (i + 1) := List.drop_eq_getElem_cons hin
    rw [hdl]
    obtain ⟨qb, qo, hq1, hq2⟩ := R.sl.at .i64 (List.getElem?_eq_getElem hin)
    rw [esize] at hq1 hq2
    have hwr := wrap_succ (i := i) hin (by omega)
    generalize L[i] = a at hq2
    have ld0 := (hq2 m R.sl).1
    -- the round's own variable
    have hbs := box_store m 32 (c := [.int .i64 0, .int .i64 0, .int .i64 0, .int .i64 0, .int .i64 0, .string ⟨#[]⟩]) (n := 6) rfl (encMsg.len a) (encMsg.one a)
    generalize hz : (⟨.cells [.int .i64 0, .int .i64 0, .int .i64 0, .int .i64 0, .int .i64 0, .string ⟨#[]⟩] 32, false, none⟩ : ABlk) = zb at hbs
    have hu2 : Upd [] m ((m.add zb).put m.next ⟨.cells (encMsg.cells a) 32, false, none⟩) := by
      refine ⟨by simp, fun b hb _ => ?_⟩
      rw [Mem.get_put_other _ _ (by omega), Mem.get_add_other _ _ hb]
    have hg2 : ((m.add zb).put m.next ⟨.cells (encMsg.cells a) 32, false, none⟩).get m.next = some ⟨.cells (encMsg.cells a) 32, false, none⟩ := Mem.get_put_self ..
    have hn2 : ((m.add zb).put m.next ⟨.cells (encMsg.cells a) 32, false, none⟩).next = m.next + 1 := rfl
    generalize hm2 : (m.add zb).put m.next ⟨.cells (encMsg.cells a) 32, false, none⟩ = m2 at *
    have ld2 := load_whole (n := 6) hg2 (encMsg.len a)
    have box2 := R.box.upd hu2 (fun b _ hb => by simp at hb)
    obtain ⟨m3, B', hc16, box3, hu3, hB'⟩ := take_ok a box2 (by have := R.tl; omega) (by have := R.hl; omega)
    have hn3 := hu3.next
    have hBlt := R.box.lt
    have hB'lt := box3.lt
    have holt := R.own.lt
    have own3 := (R.own.upd hu2 (fun b _ hb => by simp at hb)).upd hu3 R.dis
    have sl3 := (R.sl.upd hu2 (fun b hb => ⟨(R.slt b hb).1, by simp⟩)).upd hu3 (fun b hb => ⟨by have := (R.slt b hb).1; omega, (R.slt b hb).2.1⟩)
    simp only [Msg.agg] at hc16
    generalize hv : verd taken a = v at *
    have hu4 : Upd [] m3 (m3.add ⟨.cells [.int .i64 v] 33, false, none⟩) := Upd.add _ _ _
    have hg4 : (m3.add ⟨.cells [.int .i64 (v : Int)] 33, false, none⟩).get m3.next = some ⟨.cells [.int .i64 v] 33, false, none⟩ := Mem.get_add_self ..
    have hn4 : (m3.add ⟨.cells [.int .i64 (v : Int)] 33, false, none⟩).next = m3.next + 1 := rfl
    generalize hm4 : m3.add ⟨.cells [.int .i64 (v : Int)] 33, false, none⟩ = m4 at *
    have own4 := own3.upd hu4 (fun b _ hb => by simp at hb)
    have box4 := box3.upd hu4 (fun b _ hb => by simp at hb)
    have sl4 := sl3.upd hu4 (fun b hb => ⟨by have := (R.slt b hb).1; omega, by simp⟩)
    obtain ⟨out', m5, ha1, ha2, ha3, ha4, ha5⟩ := own4.append (k := [(v : Int)]) (eb := 8) (by simp) (by have := R.ol; simp; omega) (by have := R.ol; simp; omega)
    simp only [List.length_cons, List.length_nil, Nat.zero_add, (encInt .i64).flat_one, show (encInt .i64).size = 1 from rfl, show (encInt .i64).cells (v : Int) = [.int .i64 v] from rfl] at ha1
    have hsrc : runSrc 1 (.slice (some ⟨m3.next, 0, none⟩) 1 1) m4 = some (1, [.int .i64 v]) := by simp [runSrc, cellsAt_of_get hg4]
    have hfill := afill_one (c := [.int .i64 0]) (v := .int .i64 v) (n := 1) rfl rfl
    simp only [Value.cells] at hfill
    have hdB : ∀ b ∈ B', b ∉ blkOf out := fun b hb hb' => (hB' b hb).elim (R.dis b hb') (fun h => by have := holt b hb'; omega)
    have box5 := box4.upd ha3 hdB
    have sl5 := sl4.upd ha3 (fun b hb => ⟨by have := (R.slt b hb).1; omega, (R.slt b hb).2.2⟩)
    have htl : (took taken a).length ≤ 2 ^ 16 + (i + 1) := by
      have := R.tl
      unfold took; split
      · simp; omega
      · omega
    have hround : ∃ ts', Exec S tab fn21_l0 ts m = some (.normal, ts', m5) ∧ TsR l L p (i + 1) ts' m5 B' out' (os ++ [(v : Int)]) (took taken a) (hist ++ [v]) := by
      obtain ⟨E, hE⟩ : ∃ E, Exec S tab fn21_l0 ts m = E := ⟨_, rfl⟩
      have hE2 := hE
      simp -implicitDefEqProofs only [fn21_l0, X_seq, X_region, X_cond, X_block, Exec_ret, Exec_skip, Exec_exit, X_cons, X_nil, opsK_some, guardK_true, guardK_false, wanted_none, wanted_some, stepOp, AOp.run, aval, avals, avalO, aparts, plain, putT, runBox, runBuildSlice, List.length_cons, List.length_nil, List.cons_append, List.nil_append, List.replicate_succ, List.replicate_zero, List.length_replicate, Nat.reduceAdd, Nat.reduceSub, Nat.reduceMul, Nat.reduceLT, Nat.reduceLeDiff, Nat.reduceEqDiff, if_true, if_false, reduceIte, Bool.false_eq_true, Bool.true_eq_false, Option.bind_some, Option.map_some, Option.getD_some, List.set_cons_succ, List.set_cons_zero, List.getElem?_cons_succ, List.getElem?_cons_zero, List.length_set, List.getElem?_toArray, runEqNil, nilKind, bothNil, thenC_normal, thenC_ret, thenC_exit, condK_true, condK_false, mapN_some, mapB_normal, mapB_ret, mapB_exit, leave_ret, leave_normal, resVs, resV, oneOf, Option.isNone_none, Option.isNone_some, runNilck, runFieldAddr, asPtr, runUn, asB, capsOf, Bool.not_true, Bool.not_false, beq_self_eq_true, b_tf, b_ft, cells_agg, cells_int, cells_bool, cells_str, cells_ptr, cells_slice, cells_map, Nat.zero_add, Nat.add_zero, and_self, and_true, true_and, List.getElem?_set, R.len, R.t0, R.t5, R.t8, R.t9, R.t10, arith, iop, hlt, decide_true, hq1, ld0, hz, hbs, ld2, hc16, hfill, hm4, hsrc, ha1, hwr] at hE2
      refine ⟨_, hE.trans hE2.symm, { box := box5, own := ha2, dis := fun b hb hb' => (by rw [ha5] at hb; simp at hb; have := hB'lt b hb'; omega), sl := sl5, slt := fun b hb => ⟨by have := (R.slt b hb).1; omega, fun hb' => (hB' b hb').elim (R.slt b hb).2.1 (fun h => by have := (R.slt b hb).1; omega), fun hb' => (by rw [ha5] at hb'; simp at hb'; have := (R.slt b hb).1; omega)⟩, ol := by simp [R.ol], tl := htl, hl := by have := R.hl; simp; omega, len := ?_, t0 := ?_, t5 := ?_, t8 := ?_, t9 := ?_, t10 := ?_ }⟩ <;>
        simp -implicitDefEqProofs only [X_seq, X_region, X_cond, X_block, Exec_ret, Exec_skip, Exec_exit, X_cons, X_nil, opsK_some, guardK_true, guardK_false, wanted_none, wanted_some, stepOp, AOp.run, aval, avals, avalO, aparts, plain, putT, runBox, runBuildSlice, List.length_cons, List.length_nil, List.cons_append, List.nil_append, List.replicate_succ, List.replicate_zero, List.length_replicate, Nat.reduceAdd, Nat.reduceSub, Nat.reduceMul, Nat.reduceLT, Nat.reduceLeDiff, Nat.reduceEqDiff, if_true, if_false, reduceIte, Bool.false_eq_true, Bool.true_eq_false, Option.bind_some, Option.map_some, Option.getD_some, List.set_cons_succ, List.set_cons_zero, List.getElem?_cons_succ, List.getElem?_cons_zero, List.length_set, List.getElem?_toArray, runEqNil, nilKind, bothNil, thenC_normal, thenC_ret, thenC_exit, condK_true, condK_false, mapN_some, mapB_normal, mapB_ret, mapB_exit, leave_ret, leave_normal, resVs, resV, oneOf, Option.isNone_none, Option.isNone_some, runNilck, runFieldAddr, asPtr, runUn, asB, capsOf, Bool.not_true, Bool.not_false, beq_self_eq_true, b_tf, b_ft, cells_agg, cells_int, cells_bool, cells_str, cells_ptr, cells_slice, cells_map, Nat.zero_add, Nat.add_zero, and_self, and_true, true_and, List.getElem?_set, R.len, R.t0, R.t5, R.t8, R.t9, R.t10]
    obtain ⟨ts', hr1, hr2⟩ := hround
    obtain ⟨ts'', m'', B'', out'', os'', g1, g2, g3, g4⟩ := ih (i + 1) ts' m5 B' out' _ _ _ (by omega) hr2
    refine ⟨ts'', m'', B'', out'', os'', by rw [X_loop, hr1, thenC_normal]; exact g1, ?_, ?_, ?_⟩
    · rw [List.append_assoc] at g2
      simpa [verds, hv] using g2
    · have h25 : Upd (B ++ blkOf out) m m5 := (hu2.mono (fun b hb => by simp at hb)).trans ((hu3.mono (fun b hb _ => by simp [hb])).trans ((hu4.mono (fun b hb => by simp at hb)).trans (ha3.mono (fun b hb _ => by simp [hb]))))
      refine h25.trans_new g3 (fun b hb => ?_)
      rcases List.mem_append.1 hb with hb | hb
      · rcases hB' b hb with h | h
        · exact .inl (by simp [h])
        · exact .inr (by omega)
      · rw [ha5] at hb; simp at hb; exact .inr (by omega)
    · intro b hb
      rcases g4 b hb with h | h
      · rcases hB' b h with h | h
        · exact .inl h
        · exact .inr (by omega)
      · exact .inr (by omega)

/-- A list told to a box. -/
theorem takes_ok {m : Mem} {l p : Value} {L : List Msg} {B : List Nat} {taken : List Msg} {hist : List Nat} (hL : L.length ≤ 1000) (box : BoxAt m p B taken hist) (sl : TSl encMsg m l L) (slt : ∀ b ∈ blkOf l, b < m.next ∧ b ∉ B) (tl : taken.length ≤ 2 ^ 16) (hl : hist.length ≤ 2 ^ 16) :
    ∃ out m' B', Call S tab 21 [p, l] m = some (out, m') ∧ BoxAt m' p B' (L.foldl took taken) (hist ++ verds taken L) ∧ Upd B m m' ∧ ∀ b ∈ B', b ∈ B ∨ m.next ≤ b := by
  obtain ⟨ts, m', B', out, os, h1, R, h3, h4⟩ := takes_all_loop l L p hL L.length 0 [p, l, undef, undef, .slice none 0 0, .slice none 0 0, undef, undef, l, .int .i64 L.length, .int .i64 0, undef, undef, undef, undef, undef, undef, undef, undef, undef, undef, undef] m B (.slice none 0 0) [] taken hist (by omega)
    ⟨rfl, rfl, rfl, rfl, rfl, rfl, box, TOwn.nil _ _, fun b hb => by simp [blkOf] at hb, sl, fun b hb => ⟨(slt b hb).1, (slt b hb).2, by simp [blkOf]⟩, rfl, by omega, by omega⟩
  refine ⟨out, m', B', ?_, by simpa using R.box, by simpa [blkOf] using h3, h4⟩
  rw [eq21]
  simp -implicitDefEqProofs only [fn21, X_seq, X_region, X_cond, X_block, Exec_ret, Exec_skip, Exec_exit, X_cons, X_nil, opsK_some, guardK_true, guardK_false, wanted_none, wanted_some, stepOp, AOp.run, aval, avals, avalO, aparts, plain, putT, runBox, runBuildSlice, List.length_cons, List.length_nil, List.cons_append, List.nil_append, List.replicate_succ, List.replicate_zero, List.length_replicate, Nat.reduceAdd, Nat.reduceSub, Nat.reduceMul, Nat.reduceLT, Nat.reduceLeDiff, Nat.reduceEqDiff, if_true, if_false, reduceIte, Bool.false_eq_true, Bool.true_eq_false, Option.bind_some, Option.map_some, Option.getD_some, List.set_cons_succ, List.set_cons_zero, List.getElem?_cons_succ, List.getElem?_cons_zero, List.length_set, List.getElem?_toArray, runEqNil, nilKind, bothNil, thenC_normal, thenC_ret, thenC_exit, condK_true, condK_false, mapN_some, mapB_normal, mapB_ret, mapB_exit, leave_ret, leave_normal, resVs, resV, oneOf, Option.isNone_none, Option.isNone_some, runNilck, runFieldAddr, asPtr, runUn, asB, capsOf, Bool.not_true, Bool.not_false, beq_self_eq_true, b_tf, b_ft, cells_agg, cells_int, cells_bool, cells_str, cells_ptr, cells_slice, cells_map, Nat.zero_add, Nat.add_zero, and_self, and_true, true_and, sl.len, h1, List.getElem?_set, R.len, R.t5]

/- the law's own reason -/
theorem stream_step {S : List Msg} (hS : Num S) {j k : Nat} (hjk : j ≤ k) (hk : k ≤ S.length) {a : Msg} (ha : S[j]? = some a) :
    (j < k → verd (S.take k) a = 2 ∧ took (S.take k) a = S.take k) ∧ (j = k → verd (S.take k) a = 1 ∧ took (S.take k) a = S.take (k + 1)) := by
  have hs := hS j a ha
  have hj : j < S.length := by
    rcases Nat.lt_or_ge j S.length with h | h
    · exact h
    · rw [List.getElem?_eq_none h] at ha; cases ha
  have hlen : (S.take k).length = k := by rw [List.length_take]; omega
  constructor
  · intro hlt
    have hv : verd (S.take k) a = 2 := by
      unfold verd
      rw [if_neg (by omega), if_neg (by rw [hlen]; omega), if_neg (by rw [hlen]; omega), if_pos]
      rw [show (a.seq - 1).toNat = j by omega, List.getElem?_take_of_lt hlt, ha]
    exact ⟨hv, if_neg (by omega)⟩
  · rintro rfl
    have hv : verd (S.take j) a = 1 := by
      unfold verd
      rw [if_neg (by omega), if_neg (by rw [hlen]; omega), if_pos (by rw [hlen]; omega)]
    refine ⟨hv, (if_pos hv).trans ?_⟩
    rw [List.take_add_one, ha]
    rfl

theorem stream_run {S : List Msg} (hS : Num S) : ∀ (d j k : Nat), j ≤ k → k ≤ S.length → j + d ≤ S.length →
    ((S.drop j).take d).foldl took (S.take k) = S.take (max k (j + d)) ∧ (verds (S.take k) ((S.drop j).take d)).count 1 = max k (j + d) - k ∧
      (verds (S.take k) ((S.drop j).take d)).count 2 = d - (max k (j + d) - k) ∧ (verds (S.take k) ((S.drop j).take d)).length = d ∧ ∀ v ∈ verds (S.take k) ((S.drop j).take d), v = 1 ∨ v = 2 := by
  intro d
  induction d with
  | zero =>
    intro j k h1 h2 h3
    rw [Nat.add_zero, Nat.max_eq_left h1, List.take_zero]
    simp [verds]
  | succ d ih =>
    intro j k h1 h2 h3
    have hj : j < S.length := by omega
    have hd : (S.drop j).take (d + 1) = S[j] :: (S.drop (j + 1)).take d := by
      rw [List.drop_eq_getElem_cons hj, List.take_succ_cons]
    have hst := stream_step hS h1 h2 (List.getElem?_eq_getElem hj)
    rw [hd, List.foldl_cons, verds]
    rcases Nat.lt_or_ge j k with hlt | hge
    · obtain ⟨e1, e2⟩ := hst.1 hlt
      obtain ⟨i1, i2, i3, i4, i5⟩ := ih (j + 1) k (by omega) h2 (by omega)
      rw [e1, e2]
      rw [show j + (d + 1) = j + 1 + d by omega]
      refine ⟨i1, ?_, ?_, by rw [List.length_cons, i4], ?_⟩
      · rw [List.count_cons, i2]; simp
      · rw [List.count_cons, i3]
        rw [if_pos (by rfl)]
        rcases Nat.le_total k (j + 1 + d) with h | h
        · rw [Nat.max_eq_right h]; omega
        · rw [Nat.max_eq_left h]; omega
      · intro v hv
        rcases List.mem_cons.1 hv with rfl | hv
        · exact .inr rfl
        · exact i5 v hv
    · have hjk : j = k := by omega
      obtain ⟨e1, e2⟩ := hst.2 hjk
      obtain ⟨i1, i2, i3, i4, i5⟩ := ih (j + 1) (k + 1) (by omega) (by omega) (by omega)
      rw [e1, e2]
      have hm : max (k + 1) (j + 1 + d) = max k (j + (d + 1)) := by omega
      rw [hm] at i1 i2 i3
      refine ⟨i1, ?_, ?_, by rw [List.length_cons, i4], ?_⟩
      · rw [List.count_cons, i2, if_pos (by rfl)]; omega
      · rw [List.count_cons, i3]; simp; omega
      · intro v hv
        rcases List.mem_cons.1 hv with rfl | hv
        · exact .inl rfl
        · exact i5 v hv

end Go.Fx.Try
