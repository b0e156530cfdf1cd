/- The law InboxStream on the abstract machine: the lots, the whole. -/
import Derived.Test.YtbihanbnnhipjaaInboxStreamB
namespace Go.Fx.Try
open Go Go.Fx
set_option linter.unusedSimpArgs false
set_option linter.unusedVariables false

theorem wrap_u64_nonneg (x : Int) : 0 ≤ IntKind.u64.wrap x := by
  have hb : (2 ^ IntKind.u64.bits : Int) = 18446744073709551616 := by decide
  unfold IntKind.wrap
  simp only [hb, IntKind.signed, Bool.false_and, Bool.false_eq_true, if_false]
  omega
theorem wrap_u64_in {x : Int} (h0 : 0 ≤ x) (h1 : x ≤ 2 ^ 62) : IntKind.u64.wrap x = x := by
  have hb : (2 ^ IntKind.u64.bits : Int) = 18446744073709551616 := by decide
  unfold IntKind.wrap
  simp only [hb, IntKind.signed, Bool.false_and, Bool.false_eq_true, if_false]
  omega
theorem tmod_nat {x : Int} (h : 0 ≤ x) {n : Nat} (hn : 0 < n) : ∃ f : Nat, x.tmod (n : Int) = f ∧ f < n := by
  obtain ⟨a, rfl⟩ := Int.eq_ofNat_of_zero_le h
  exact ⟨a % n, by rw [Int.ofNat_tmod], Nat.mod_lt _ hn⟩

structure LtR (lots : Value) (Ls : List (Int × Int)) (p sv : Value) (T : List Msg) (i : Nat) (ts : List Value) (m : Mem) (B : List Nat) (k : Nat) (hist : List Nat) : Prop where
  len : ts.length = 115
  t1 : ts[1]? = some lots
  t5 : ts[5]? = some sv
  t7 : ts[7]? = some p
  t8 : ts[8]? = some (.int .i64 hist.length)
  t9 : ts[9]? = some (.int .i64 i)
  box : BoxAt m p B (T.take k) hist
  kl : k ≤ T.length
  own : TOwn encMsg 32 m sv T
  dis : ∀ b ∈ blkOf sv, b ∉ B
  sl : TSl encPair m lots Ls
  slt : ∀ b ∈ blkOf lots, b < m.next ∧ b ∉ B
  hlen : hist.length ≤ 20 * i
  c1 : hist.count 1 = k
  c2 : hist.count 2 + k = hist.length
  h12 : ∀ v ∈ hist, v = 1 ∨ v = 2

theorem lots_loop (lots : Value) (Ls : List (Int × Int)) (p sv : Value) (T : List Msg) (hT : Num T) (hTl : T.length ≤ 100) (n : Nat) (hn : n = min Ls.length 100) : ∀ (d i : Nat) (ts : List Value) (m : Mem) (B : List Nat) (k : Nat) (hist : List Nat), i + d = n → LtR lots Ls p sv T i ts m B k hist →
    ∃ ts' m' B' k' hist', Exec S tab (.loop fn5_l1) ts m = some (.exit 2, ts', m') ∧ LtR lots Ls p sv T n ts' m' B' k' hist' := by
  intro d
  induction d with
  | zero =>
    intro i ts m B k hist hi R
    obtain rfl : i = n := by omega
    have hend : ∃ ts', Exec S tab (.loop fn5_l1) ts m = some (.exit 2, ts', m) ∧ LtR lots Ls p sv T i ts' m B k hist := by
      by_cases h1 : i < Ls.length
      · have b1 : decide ((i : Int) < (Ls.length : Int)) = true := by simp; omega
        have b2 : decide ((i : Int) < 100) = false := by simp; omega
        obtain ⟨E, hE⟩ : ∃ E, Exec S tab (.loop fn5_l1) ts m = E := ⟨_, rfl⟩
        have hE2 := hE
        rw [X_loop] at hE2
        simp -implicitDefEqProofs only [fn5_l1, X_seq, X_region, X_cond, X_block, Exec_ret, Exec_skip, Exec_exit, X_cons, X_nil, opsK_some, guardK_true, guardK_false, wanted_none, wanted_some, stepOp, AOp.run, aval, avals, avalO, aparts, plain, putT, runBox, runBuildSlice, List.length_cons, List.length_nil, List.cons_append, List.nil_append, List.replicate_succ, List.replicate_zero, List.length_replicate, Nat.reduceAdd, Nat.reduceSub, Nat.reduceMul, Nat.reduceLT, Nat.reduceLeDiff, Nat.reduceEqDiff, if_true, if_false, reduceIte, Bool.false_eq_true, Bool.true_eq_false, Option.bind_some, Option.map_some, Option.getD_some, List.set_cons_succ, List.set_cons_zero, List.getElem?_cons_succ, List.getElem?_cons_zero, List.length_set, List.getElem?_toArray, runEqNil, nilKind, bothNil, thenC_normal, thenC_ret, thenC_exit, condK_true, condK_false, mapN_some, mapB_normal, mapB_ret, mapB_exit, leave_ret, leave_normal, resVs, resV, oneOf, Option.isNone_none, Option.isNone_some, runNilck, runFieldAddr, asPtr, runUn, asB, capsOf, Bool.not_true, Bool.not_false, beq_self_eq_true, b_tf, b_ft, cells_agg, cells_int, cells_bool, cells_str, cells_ptr, cells_slice, cells_map, Nat.zero_add, Nat.add_zero, and_self, and_true, true_and, List.getElem?_set, R.len, R.t1, R.t9, R.sl.len, arith, iop, b1, b2] at hE2
        refine ⟨_, hE.trans hE2.symm, { box := R.box, kl := R.kl, own := R.own, dis := R.dis, sl := R.sl, slt := R.slt, hlen := R.hlen, c1 := R.c1, c2 := R.c2, h12 := R.h12, len := ?_, t1 := ?_, t5 := ?_, t7 := ?_, t8 := ?_, t9 := ?_ }⟩ <;>
          simp -implicitDefEqProofs only [X_seq, X_region, X_cond, X_block, Exec_ret, Exec_skip, Exec_exit, X_cons, X_nil, opsK_some, guardK_true, guardK_false, wanted_none, wanted_some, stepOp, AOp.run, aval, avals, avalO, aparts, plain, putT, runBox, runBuildSlice, List.length_cons, List.length_nil, List.cons_append, List.nil_append, List.replicate_succ, List.replicate_zero, List.length_replicate, Nat.reduceAdd, Nat.reduceSub, Nat.reduceMul, Nat.reduceLT, Nat.reduceLeDiff, Nat.reduceEqDiff, if_true, if_false, reduceIte, Bool.false_eq_true, Bool.true_eq_false, Option.bind_some, Option.map_some, Option.getD_some, List.set_cons_succ, List.set_cons_zero, List.getElem?_cons_succ, List.getElem?_cons_zero, List.length_set, List.getElem?_toArray, runEqNil, nilKind, bothNil, thenC_normal, thenC_ret, thenC_exit, condK_true, condK_false, mapN_some, mapB_normal, mapB_ret, mapB_exit, leave_ret, leave_normal, resVs, resV, oneOf, Option.isNone_none, Option.isNone_some, runNilck, runFieldAddr, asPtr, runUn, asB, capsOf, Bool.not_true, Bool.not_false, beq_self_eq_true, b_tf, b_ft, cells_agg, cells_int, cells_bool, cells_str, cells_ptr, cells_slice, cells_map, Nat.zero_add, Nat.add_zero, and_self, and_true, true_and, List.getElem?_set, R.len, R.t1, R.t5, R.t7, R.t8, R.t9]
      · have b1 : decide ((i : Int) < (Ls.length : Int)) = false := by simp; omega
        obtain ⟨E, hE⟩ : ∃ E, Exec S tab (.loop fn5_l1) ts m = E := ⟨_, rfl⟩
        have hE2 := hE
        rw [X_loop] at hE2
        simp -implicitDefEqProofs only [fn5_l1, X_seq, X_region, X_cond, X_block, Exec_ret, Exec_skip, Exec_exit, X_cons, X_nil, opsK_some, guardK_true, guardK_false, wanted_none, wanted_some, stepOp, AOp.run, aval, avals, avalO, aparts, plain, putT, runBox, runBuildSlice, List.length_cons, List.length_nil, List.cons_append, List.nil_append, List.replicate_succ, List.replicate_zero, List.length_replicate, Nat.reduceAdd, Nat.reduceSub, Nat.reduceMul, Nat.reduceLT, Nat.reduceLeDiff, Nat.reduceEqDiff, if_true, if_false, reduceIte, Bool.false_eq_true, Bool.true_eq_false, Option.bind_some, Option.map_some, Option.getD_some, List.set_cons_succ, List.set_cons_zero, List.getElem?_cons_succ, List.getElem?_cons_zero, List.length_set, List.getElem?_toArray, runEqNil, nilKind, bothNil, thenC_normal, thenC_ret, thenC_exit, condK_true, condK_false, mapN_some, mapB_normal, mapB_ret, mapB_exit, leave_ret, leave_normal, resVs, resV, oneOf, Option.isNone_none, Option.isNone_some, runNilck, runFieldAddr, asPtr, runUn, asB, capsOf, Bool.not_true, Bool.not_false, beq_self_eq_true, b_tf, b_ft, cells_agg, cells_int, cells_bool, cells_str, cells_ptr, cells_slice, cells_map, Nat.zero_add, Nat.add_zero, and_self, and_true, true_and, List.getElem?_set, R.len, R.t1, R.t9, R.sl.len, arith, iop, b1] at hE2
        refine ⟨_, hE.trans hE2.symm, { box := R.box, kl := R.kl, own := R.own, dis := R.dis, sl := R.sl, slt := R.slt, hlen := R.hlen, c1 := R.c1, c2 := R.c2, h12 := R.h12, len := ?_, t1 := ?_, t5 := ?_, t7 := ?_, t8 := ?_, t9 := ?_ }⟩ <;>
          simp -implicitDefEqProofs only [X_seq, X_region, X_cond, X_block, Exec_ret, Exec_skip, Exec_exit, X_cons, X_nil, opsK_some, guardK_true, guardK_false, wanted_none, wanted_some, stepOp, AOp.run, aval, avals, avalO, aparts, plain, putT, runBox, runBuildSlice, List.length_cons, List.length_nil, List.cons_append, List.nil_append, List.replicate_succ, List.replicate_zero, List.length_replicate, Nat.reduceAdd, Nat.reduceSub, Nat.reduceMul, Nat.reduceLT, Nat.reduceLeDiff, Nat.reduceEqDiff, if_true, if_false, reduceIte, Bool.false_eq_true, Bool.true_eq_false, Option.bind_some, Option.map_some, Option.getD_some, List.set_cons_succ, List.set_cons_zero, List.getElem?_cons_succ, List.getElem?_cons_zero, List.length_set, List.getElem?_toArray, runEqNil, nilKind, bothNil, thenC_normal, thenC_ret, thenC_exit, condK_true, condK_false, mapN_some, mapB_normal, mapB_ret, mapB_exit, leave_ret, leave_normal, resVs, resV, oneOf, Option.isNone_none, Option.isNone_some, runNilck, runFieldAddr, asPtr, runUn, asB, capsOf, Bool.not_true, Bool.not_false, beq_self_eq_true, b_tf, b_ft, cells_agg, cells_int, cells_bool, cells_str, cells_ptr, cells_slice, cells_map, Nat.zero_add, Nat.add_zero, and_self, and_true, true_and, List.getElem?_set, R.len, R.t1, R.t5, R.t7, R.t8, R.t9]
    obtain ⟨ts', h1, h2⟩ := hend
    exact ⟨ts', m, B, k, hist, h1, h2⟩
  | succ d ih =>
    intro i ts m B k hist hi R
    have hin : i < Ls.length := by omega
    have b1 : decide ((i : Int) < (Ls.length : Int)) = true := by simp; omega
    have b2 : decide ((i : Int) < 100) = true := by simp; omega
    obtain ⟨qb, qo, hq1, hq2⟩ := R.sl.at .i64 (List.getElem?_eq_getElem hin)
    rw [psize] at hq1
    have hwr := wrap_succ (i := i) (n := 100) (by omega) (by omega)
    have ld0 := (hq2 m R.sl).2 0 (.int .i64 Ls[i].1) rfl
    have ld1 := (hq2 m R.sl).2 1 (.int .i64 Ls[i].2) rfl
    rw [Nat.add_zero] at ld0
    generalize Ls[i].1 = x at ld0
    generalize Ls[i].2 = y at ld1
    have hidx0 : runIndexA 2 1 (.pointer (some ⟨qb, qo, none⟩)) (.int .i64 0) = some (.pointer (some ⟨qb, qo, none⟩)) := by simp [runIndexA]
    have hidx1 : runIndexA 2 1 (.pointer (some ⟨qb, qo, none⟩)) (.int .i64 1) = some (.pointer (some ⟨qb, qo + 1, none⟩)) := by simp [runIndexA]
    have hkl := R.kl
    have hTk : (T.take k).length = k := by rw [List.length_take]; omega
    have hlast := last_ok R.box
    rw [hTk] at hlast
    have hw1 : IntKind.i64.wrap ((k : Int) + 1) = (k : Int) + 1 := wrap_in (by omega) (by omega)
    have hw2 : IntKind.u64.wrap ((k : Int) + 1) = ((k + 1 : Nat) : Int) := by rw [wrap_u64_in (by omega) (by omega)]; rfl
    have hk0 : ¬ (((k + 1 : Nat) : Int) = 0) := by omega
    obtain ⟨f, hf1, hf2⟩ := tmod_nat (wrap_u64_nonneg x) (n := k + 1) (by omega)
    have hwf : IntKind.i64.wrap (f : Int) = (f : Int) := wrap_in (by omega) (by omega)
    obtain ⟨g, hg1, hg2⟩ := tmod_nat (wrap_u64_nonneg y) (n := 20) (by omega)
    have h20 : ((20 : Nat) : Int) = 20 := rfl
    rw [h20] at hg1
    have hz20 : ¬ ((20 : Int) = 0) := by omega
    have hwg : IntKind.i64.wrap (g : Int) = (g : Int) := wrap_in (by omega) (by omega)
    have hwfg : IntKind.i64.wrap ((f : Int) + (g : Int)) = ((f + g : Nat) : Int) := by rw [wrap_in (by omega) (by omega)]; rfl
    obtain ⟨to, hto⟩ : ∃ to, to = min (f + g) T.length := ⟨_, rfl⟩
    have hmin : min2 (.int .i64 ((f + g : Nat) : Int)) (.int .i64 T.length) = some (.int .i64 (to : Int)) := by
      simp only [min2]
      congr 2
      split <;> omega
    have hft : f ≤ to := by omega
    have htT : to ≤ T.length := by omega
    obtain ⟨cv, hc1, hc2, hc3⟩ := TOwn.cut R.own hft htT
    rw [esize] at hc1
    have hrun := stream_run hT (to - f) f k (by omega) R.kl (by omega)
    rw [show f + (to - f) = to by omega] at hrun
    obtain ⟨r1, r2, r3, r4, r5⟩ := hrun
    have holt := R.own.lt
    obtain ⟨out, m', B', ht1, ht2, ht3, ht4⟩ := takes_ok (by simp only [List.length_take, List.length_drop]; omega) R.box hc2 (fun b hb => ⟨holt b (hc3 b hb), R.dis b (hc3 b hb)⟩) (by omega) (by have := R.hlen; omega)
    rw [r1] at ht2
    generalize hV : verds (T.take k) ((T.drop f).take (to - f)) = V at *
    have hwd : IntKind.i64.wrap ((to : Int) - (f : Int)) = ((to - f : Nat) : Int) := by rw [wrap_in (by omega) (by omega)]; omega
    have hws : IntKind.i64.wrap ((hist.length : Int) + ((to - f : Nat) : Int)) = (((hist ++ V).length : Nat) : Int) := by
      rw [wrap_in (by omega) (by have := R.hlen; omega), List.length_append, r4]; rfl
    have hround : ∃ ts', Exec S tab fn5_l1 ts m = some (.normal, ts', m') ∧ LtR lots Ls p sv T (i + 1) ts' m' B' (max k to) (hist ++ V) := by
      obtain ⟨E, hE⟩ : ∃ E, Exec S tab fn5_l1 ts m = E := ⟨_, rfl⟩
      have hE2 := hE
      simp -implicitDefEqProofs only [fn5_l1, X_seq, X_region, X_cond, X_block, Exec_ret, Exec_skip, Exec_exit, X_cons, X_nil, opsK_some, guardK_true, guardK_false, wanted_none, wanted_some, stepOp, AOp.run, aval, avals, avalO, aparts, plain, putT, runBox, runBuildSlice, List.length_cons, List.length_nil, List.cons_append, List.nil_append, List.replicate_succ, List.replicate_zero, List.length_replicate, Nat.reduceAdd, Nat.reduceSub, Nat.reduceMul, Nat.reduceLT, Nat.reduceLeDiff, Nat.reduceEqDiff, if_true, if_false, reduceIte, Bool.false_eq_true, Bool.true_eq_false, Option.bind_some, Option.map_some, Option.getD_some, List.set_cons_succ, List.set_cons_zero, List.getElem?_cons_succ, List.getElem?_cons_zero, List.length_set, List.getElem?_toArray, runEqNil, nilKind, bothNil, thenC_normal, thenC_ret, thenC_exit, condK_true, condK_false, mapN_some, mapB_normal, mapB_ret, mapB_exit, leave_ret, leave_normal, resVs, resV, oneOf, Option.isNone_none, Option.isNone_some, runNilck, runFieldAddr, asPtr, runUn, asB, capsOf, Bool.not_true, Bool.not_false, beq_self_eq_true, b_tf, b_ft, cells_agg, cells_int, cells_bool, cells_str, cells_ptr, cells_slice, cells_map, Nat.zero_add, Nat.add_zero, and_self, and_true, true_and, X_draw, D_start, D_nil, D_cons, drG_true, drG_false, drC_pure, drC_eff, drC_read, drN_pure, drN_read, drN_eff, drP_some, drE_some, drR_some, drV_some, AOp.cls, AOp.req, Req.run, okReq_at, okOne_some, okV_refl, okAt_zero, okAt_succ, List.all_cons, List.all_nil, Bool.and_true, Bool.and_self, List.getElem?_set, R.len, R.t1, R.t5, R.t7, R.t8, R.t9, R.sl.len, R.own.tsl.len, arith, iop, runConv, foldV, b1, b2, hq1, hidx0, hidx1, ld0, ld1, hlast, hw1, hw2, hk0, hf1, hwf, hg1, hz20, hwg, hwfg, hmin, hc1, ht1, hwd, hws, hwr] at hE2
      have hm1 : m.next ≤ m'.next := ht3.next
      refine ⟨_, hE.trans hE2.symm, { box := ht2, kl := by omega, own := R.own.upd ht3 R.dis, dis := fun b hb hb' => (ht4 b hb').elim (R.dis b hb) (fun h => by have := holt b hb; omega), sl := R.sl.upd ht3 R.slt, slt := fun b hb => ⟨by have := (R.slt b hb).1; omega, fun hb' => (ht4 b hb').elim (R.slt b hb).2 (fun h => by have := (R.slt b hb).1; omega)⟩, hlen := by have := R.hlen; simp [r4]; omega, c1 := by have := R.c1; rw [List.count_append, r2]; omega, c2 := by have := R.c1; have := R.c2; rw [List.count_append, r3, List.length_append, r4]; omega, h12 := fun v hv => (List.mem_append.1 hv).elim (R.h12 v) (r5 v), len := ?_, t1 := ?_, t5 := ?_, t7 := ?_, t8 := ?_, t9 := ?_ }⟩ <;>
        simp -implicitDefEqProofs only [X_seq, X_region, X_cond, X_block, Exec_ret, Exec_skip, Exec_exit, X_cons, X_nil, opsK_some, guardK_true, guardK_false, wanted_none, wanted_some, stepOp, AOp.run, aval, avals, avalO, aparts, plain, putT, runBox, runBuildSlice, List.length_cons, List.length_nil, List.cons_append, List.nil_append, List.replicate_succ, List.replicate_zero, List.length_replicate, Nat.reduceAdd, Nat.reduceSub, Nat.reduceMul, Nat.reduceLT, Nat.reduceLeDiff, Nat.reduceEqDiff, if_true, if_false, reduceIte, Bool.false_eq_true, Bool.true_eq_false, Option.bind_some, Option.map_some, Option.getD_some, List.set_cons_succ, List.set_cons_zero, List.getElem?_cons_succ, List.getElem?_cons_zero, List.length_set, List.getElem?_toArray, runEqNil, nilKind, bothNil, thenC_normal, thenC_ret, thenC_exit, condK_true, condK_false, mapN_some, mapB_normal, mapB_ret, mapB_exit, leave_ret, leave_normal, resVs, resV, oneOf, Option.isNone_none, Option.isNone_some, runNilck, runFieldAddr, asPtr, runUn, asB, capsOf, Bool.not_true, Bool.not_false, beq_self_eq_true, b_tf, b_ft, cells_agg, cells_int, cells_bool, cells_str, cells_ptr, cells_slice, cells_map, Nat.zero_add, Nat.add_zero, and_self, and_true, true_and, List.getElem?_set, R.len, R.t1, R.t5, R.t7, R.t8, R.t9]
    obtain ⟨ts', hr1, hr2⟩ := hround
    obtain ⟨ts'', m'', B'', k'', hist'', g1, g2⟩ := ih (i + 1) ts' m' B' _ _ (by omega) hr2
    exact ⟨ts'', m'', B'', k'', hist'', by rw [X_loop, hr1, thenC_normal]; exact g1, g2⟩

theorem inboxStream {m : Mem} {v w : Value} {l : List Val} {ls : List (Int × Int)} (h : TSl encVal m v l) (hb : ∀ b ∈ blkOf v, b < m.next) (h' : TSl encPair m w ls) (hb' : ∀ b ∈ blkOf w, b < m.next) : ∃ m', Call S tab 5 [v, w] m = some (.bool true, m') := by
  obtain ⟨ts1, m1, sv, T, h1, R1, u1, o1⟩ := make_loop v l w (min l.length 100) rfl (min l.length 100) 0
    ([v, w, undef, undef, .bool false, .slice none 0 0, .int .i64 0, undef, undef, undef, undef, undef, .bool true, .bool false] ++ List.replicate 101 undef) m (.slice none 0 0) [] (by omega)
    ⟨by simp, rfl, rfl, rfl, rfl, TOwn.nil _ _, h, fun b hbb => ⟨hb b hbb, by simp [blkOf]⟩, rfl, fun i a h => by simp at h⟩
  simp only [List.replicate_succ, List.replicate_zero, List.cons_append, List.nil_append] at h1
  obtain ⟨p, m2, hn1, hbox, hu2⟩ := new_ok m1
  have hTl : T.length ≤ 100 := by rw [R1.sn]; omega
  have hm1 := u1.next
  have hm2 := hu2.next
  have hslt := R1.own.lt
  have sl2 := (h'.upd u1 (fun b hbb => ⟨hb' b hbb, by simp [blkOf]⟩)).upd hu2 (fun b hbb => ⟨by have := hb' b hbb; omega, by simp⟩)
  obtain ⟨ts2, m3, B, k, hist, h2, R2⟩ := lots_loop w ls p sv T R1.num hTl (min ls.length 100) rfl (min ls.length 100) 0 ((((ts1.set 34 p).set 7 p).set 8 (.int .i64 0)).set 9 (.int .i64 0)) m2 [m1.next] 0 [] (by omega)
    ⟨by simp [R1.len], by simp -implicitDefEqProofs only [X_seq, X_region, X_cond, X_block, Exec_ret, Exec_skip, Exec_exit, X_cons, X_nil, opsK_some, guardK_true, guardK_false, wanted_none, wanted_some, stepOp, AOp.run, aval, avals, avalO, aparts, plain, putT, runBox, runBuildSlice, List.length_cons, List.length_nil, List.cons_append, List.nil_append, List.replicate_succ, List.replicate_zero, List.length_replicate, Nat.reduceAdd, Nat.reduceSub, Nat.reduceMul, Nat.reduceLT, Nat.reduceLeDiff, Nat.reduceEqDiff, if_true, if_false, reduceIte, Bool.false_eq_true, Bool.true_eq_false, Option.bind_some, Option.map_some, Option.getD_some, List.set_cons_succ, List.set_cons_zero, List.getElem?_cons_succ, List.getElem?_cons_zero, List.length_set, List.getElem?_toArray, runEqNil, nilKind, bothNil, thenC_normal, thenC_ret, thenC_exit, condK_true, condK_false, mapN_some, mapB_normal, mapB_ret, mapB_exit, leave_ret, leave_normal, resVs, resV, oneOf, Option.isNone_none, Option.isNone_some, runNilck, runFieldAddr, asPtr, runUn, asB, capsOf, Bool.not_true, Bool.not_false, beq_self_eq_true, b_tf, b_ft, cells_agg, cells_int, cells_bool, cells_str, cells_ptr, cells_slice, cells_map, Nat.zero_add, Nat.add_zero, and_self, and_true, true_and, List.getElem?_set, R1.len, R1.t1], by simp -implicitDefEqProofs only [X_seq, X_region, X_cond, X_block, Exec_ret, Exec_skip, Exec_exit, X_cons, X_nil, opsK_some, guardK_true, guardK_false, wanted_none, wanted_some, stepOp, AOp.run, aval, avals, avalO, aparts, plain, putT, runBox, runBuildSlice, List.length_cons, List.length_nil, List.cons_append, List.nil_append, List.replicate_succ, List.replicate_zero, List.length_replicate, Nat.reduceAdd, Nat.reduceSub, Nat.reduceMul, Nat.reduceLT, Nat.reduceLeDiff, Nat.reduceEqDiff, if_true, if_false, reduceIte, Bool.false_eq_true, Bool.true_eq_false, Option.bind_some, Option.map_some, Option.getD_some, List.set_cons_succ, List.set_cons_zero, List.getElem?_cons_succ, List.getElem?_cons_zero, List.length_set, List.getElem?_toArray, runEqNil, nilKind, bothNil, thenC_normal, thenC_ret, thenC_exit, condK_true, condK_false, mapN_some, mapB_normal, mapB_ret, mapB_exit, leave_ret, leave_normal, resVs, resV, oneOf, Option.isNone_none, Option.isNone_some, runNilck, runFieldAddr, asPtr, runUn, asB, capsOf, Bool.not_true, Bool.not_false, beq_self_eq_true, b_tf, b_ft, cells_agg, cells_int, cells_bool, cells_str, cells_ptr, cells_slice, cells_map, Nat.zero_add, Nat.add_zero, and_self, and_true, true_and, List.getElem?_set, R1.len, R1.t5], by simp -implicitDefEqProofs only [X_seq, X_region, X_cond, X_block, Exec_ret, Exec_skip, Exec_exit, X_cons, X_nil, opsK_some, guardK_true, guardK_false, wanted_none, wanted_some, stepOp, AOp.run, aval, avals, avalO, aparts, plain, putT, runBox, runBuildSlice, List.length_cons, List.length_nil, List.cons_append, List.nil_append, List.replicate_succ, List.replicate_zero, List.length_replicate, Nat.reduceAdd, Nat.reduceSub, Nat.reduceMul, Nat.reduceLT, Nat.reduceLeDiff, Nat.reduceEqDiff, if_true, if_false, reduceIte, Bool.false_eq_true, Bool.true_eq_false, Option.bind_some, Option.map_some, Option.getD_some, List.set_cons_succ, List.set_cons_zero, List.getElem?_cons_succ, List.getElem?_cons_zero, List.length_set, List.getElem?_toArray, runEqNil, nilKind, bothNil, thenC_normal, thenC_ret, thenC_exit, condK_true, condK_false, mapN_some, mapB_normal, mapB_ret, mapB_exit, leave_ret, leave_normal, resVs, resV, oneOf, Option.isNone_none, Option.isNone_some, runNilck, runFieldAddr, asPtr, runUn, asB, capsOf, Bool.not_true, Bool.not_false, beq_self_eq_true, b_tf, b_ft, cells_agg, cells_int, cells_bool, cells_str, cells_ptr, cells_slice, cells_map, Nat.zero_add, Nat.add_zero, and_self, and_true, true_and, List.getElem?_set, R1.len], by simp -implicitDefEqProofs only [X_seq, X_region, X_cond, X_block, Exec_ret, Exec_skip, Exec_exit, X_cons, X_nil, opsK_some, guardK_true, guardK_false, wanted_none, wanted_some, stepOp, AOp.run, aval, avals, avalO, aparts, plain, putT, runBox, runBuildSlice, List.length_cons, List.length_nil, List.cons_append, List.nil_append, List.replicate_succ, List.replicate_zero, List.length_replicate, Nat.reduceAdd, Nat.reduceSub, Nat.reduceMul, Nat.reduceLT, Nat.reduceLeDiff, Nat.reduceEqDiff, if_true, if_false, reduceIte, Bool.false_eq_true, Bool.true_eq_false, Option.bind_some, Option.map_some, Option.getD_some, List.set_cons_succ, List.set_cons_zero, List.getElem?_cons_succ, List.getElem?_cons_zero, List.length_set, List.getElem?_toArray, runEqNil, nilKind, bothNil, thenC_normal, thenC_ret, thenC_exit, condK_true, condK_false, mapN_some, mapB_normal, mapB_ret, mapB_exit, leave_ret, leave_normal, resVs, resV, oneOf, Option.isNone_none, Option.isNone_some, runNilck, runFieldAddr, asPtr, runUn, asB, capsOf, Bool.not_true, Bool.not_false, beq_self_eq_true, b_tf, b_ft, cells_agg, cells_int, cells_bool, cells_str, cells_ptr, cells_slice, cells_map, Nat.zero_add, Nat.add_zero, and_self, and_true, true_and, List.getElem?_set, R1.len]; rfl, by simp -implicitDefEqProofs only [X_seq, X_region, X_cond, X_block, Exec_ret, Exec_skip, Exec_exit, X_cons, X_nil, opsK_some, guardK_true, guardK_false, wanted_none, wanted_some, stepOp, AOp.run, aval, avals, avalO, aparts, plain, putT, runBox, runBuildSlice, List.length_cons, List.length_nil, List.cons_append, List.nil_append, List.replicate_succ, List.replicate_zero, List.length_replicate, Nat.reduceAdd, Nat.reduceSub, Nat.reduceMul, Nat.reduceLT, Nat.reduceLeDiff, Nat.reduceEqDiff, if_true, if_false, reduceIte, Bool.false_eq_true, Bool.true_eq_false, Option.bind_some, Option.map_some, Option.getD_some, List.set_cons_succ, List.set_cons_zero, List.getElem?_cons_succ, List.getElem?_cons_zero, List.length_set, List.getElem?_toArray, runEqNil, nilKind, bothNil, thenC_normal, thenC_ret, thenC_exit, condK_true, condK_false, mapN_some, mapB_normal, mapB_ret, mapB_exit, leave_ret, leave_normal, resVs, resV, oneOf, Option.isNone_none, Option.isNone_some, runNilck, runFieldAddr, asPtr, runUn, asB, capsOf, Bool.not_true, Bool.not_false, beq_self_eq_true, b_tf, b_ft, cells_agg, cells_int, cells_bool, cells_str, cells_ptr, cells_slice, cells_map, Nat.zero_add, Nat.add_zero, and_self, and_true, true_and, List.getElem?_set, R1.len]; rfl, by simpa using hbox, by omega, R1.own.upd hu2 (fun b _ hb => by simp at hb), fun b hbb hbn => by simp at hbn; have := hslt b hbb; omega, sl2, fun b hbb => ⟨by have := hb' b hbb; omega, fun hbn => by simp at hbn; have := hb' b hbb; omega⟩, by simp, rfl, rfl, fun v hv => by cases hv⟩
  have hkl := R2.kl
  have hTk : (T.take k).length = k := by rw [List.length_take]; omega
  obtain ⟨av, m4, ha1, ha2, ha3, ha4⟩ := all_ok R2.box (by omega)
  have box4 := R2.box.upd ha3 (fun b _ hb => by simp at hb)
  have hlast := last_ok box4
  rw [hTk] at hlast
  have own4 := R2.own.upd ha3 (fun b _ hb => by simp at hb)
  obtain ⟨cv, hc1, hc2, hc3⟩ := own4.tsl.upto hkl
  rw [esize] at hc1
  have hsame := same_ok ha2.tsl hc2 (by omega)
  rw [show decide (T.take k = T.take k) = true by simp] at hsame
  have c1 := count_ok box4 (v := 1) (by omega) (by omega)
  have c2 := count_ok box4 (v := 2) (by omega) (by omega)
  have c3 := count_ok box4 (v := 3) (by omega) (by omega)
  have c4 := count_ok box4 (v := 4) (by omega) (by omega)
  have c5 := count_ok box4 (v := 5) (by omega) (by omega)
  have z : ∀ v, 3 ≤ v → hist.count v = 0 := fun v hv => List.count_eq_zero.2 (fun hm => by have := R2.h12 v hm; omega)
  rw [R2.c1] at c1
  rw [z 3 (by omega)] at c3
  rw [z 4 (by omega)] at c4
  rw [z 5 (by omega)] at c5
  have e1 : (((1 : Nat) : Int)) = 1 := rfl
  have e2 : (((2 : Nat) : Int)) = 2 := rfl
  have e3 : (((3 : Nat) : Int)) = 3 := rfl
  have e4 : (((4 : Nat) : Int)) = 4 := rfl
  have e5 : (((5 : Nat) : Int)) = 5 := rfl
  have e0 : (((0 : Nat) : Int)) = 0 := rfl
  rw [e1] at c1; rw [e2] at c2; rw [e3, e0] at c3; rw [e4, e0] at c4; rw [e5, e0] at c5
  have w0 : IntKind.i64.wrap (0 + 0) = 0 := by decide
  have ws : IntKind.i64.wrap ((hist.length : Int) - (k : Int)) = (hist.count 2 : Int) := by
    have := R2.c2; have := R2.hlen
    rw [wrap_in (by omega) (by omega)]; omega
  have b0 : ((0 : Int) == 0) = true := rfl
  refine ⟨m4, ?_⟩
  rw [eq5]
  simp -implicitDefEqProofs only [fn5, X_seq, X_region, X_cond, X_block, Exec_ret, Exec_skip, Exec_exit, X_cons, X_nil, opsK_some, guardK_true, guardK_false, wanted_none, wanted_some, stepOp, AOp.run, aval, avals, avalO, aparts, plain, putT, runBox, runBuildSlice, List.length_cons, List.length_nil, List.cons_append, List.nil_append, List.replicate_succ, List.replicate_zero, List.length_replicate, Nat.reduceAdd, Nat.reduceSub, Nat.reduceMul, Nat.reduceLT, Nat.reduceLeDiff, Nat.reduceEqDiff, if_true, if_false, reduceIte, Bool.false_eq_true, Bool.true_eq_false, Option.bind_some, Option.map_some, Option.getD_some, List.set_cons_succ, List.set_cons_zero, List.getElem?_cons_succ, List.getElem?_cons_zero, List.length_set, List.getElem?_toArray, runEqNil, nilKind, bothNil, thenC_normal, thenC_ret, thenC_exit, condK_true, condK_false, mapN_some, mapB_normal, mapB_ret, mapB_exit, leave_ret, leave_normal, resVs, resV, oneOf, Option.isNone_none, Option.isNone_some, runNilck, runFieldAddr, asPtr, runUn, asB, capsOf, Bool.not_true, Bool.not_false, beq_self_eq_true, b_tf, b_ft, cells_agg, cells_int, cells_bool, cells_str, cells_ptr, cells_slice, cells_map, Nat.zero_add, Nat.add_zero, and_self, and_true, true_and, eq12, h1, hn1, h2, List.getElem?_set, R1.len, R1.t1, R1.t5, R2.len, R2.t5, R2.t7, R2.t8, ha1, hlast, hc1, hsame, c1, c2, c3, c4, c5, w0, ws, b0, arith, iop, beq_self_eq_true]

theorem val_of {m : Mem} {cs : List Value} (h : WT Proofs.Try.prog m 3 30 cs) : ∃ a : Val, cs = encVal.cells a ∧ True := by
  obtain ⟨q1, s1, rfl, g1, q2, s2, rfl, g2, q3, s3, rfl, g3, rfl⟩ := WT.structT (ts := [28, 2, 9]) (by kernel_rfl) h
  obtain ⟨y1, rfl, _⟩ := WT.int (k := .i64) (by kernel_rfl) g1
  obtain ⟨y2, rfl, _⟩ := WT.int (k := .i64) (by kernel_rfl) g2
  obtain ⟨y3, rfl, _⟩ := WT.string (by kernel_rfl) g3
  exact ⟨⟨y1, y2, y3⟩, rfl, trivial⟩

theorem pair_of {m : Mem} {cs : List Value} (h : WT Proofs.Try.prog m 3 44 cs) : ∃ a : Int × Int, cs = encPair.cells a ∧ True := by
  unfold WT at h
  rw [show Proofs.Try.prog.underlying 44 = some (.array 2 3) by kernel_rfl] at h
  simp only at h
  rw [show Proofs.Try.prog.cellsOf 3 = 1 by kernel_rfl] at h
  obtain ⟨hl, hall⟩ := h
  match cs, hl with
  | [a, b], _ =>
    obtain ⟨x, hx, _⟩ := WT.int (k := .i64) (by kernel_rfl) (hall 0 (by omega))
    obtain ⟨y, hy, _⟩ := WT.int (k := .i64) (by kernel_rfl) (hall 1 (by omega))
    simp at hx hy
    subst hx hy
    exact ⟨(x, y), rfl, trivial⟩

end Go.Fx.Try
