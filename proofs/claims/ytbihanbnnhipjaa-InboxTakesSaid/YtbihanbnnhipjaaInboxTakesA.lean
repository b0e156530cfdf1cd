/- The law InboxTakes on the abstract machine. -/
import Derived.Test.YtbihanbnnhipjaaInboxW
namespace Go.Fx.Try
open Go Go.Fx
set_option linter.unusedSimpArgs false
set_option linter.unusedVariables false

def cntK (hist : List Nat) (kind : Int) : Nat := hist.countP fun v : Nat => (v : Int) == kind

structure TkR (l : Value) (L : List Msg) (kind : Int) (p : Value) (i : Nat) (ts : List Value) (m : Mem) (B : List Nat) (sv : Value) (taken : List Msg) (hist : List Nat) : Prop where
  len : ts.length = 65
  t0 : ts[0]? = some l
  t1 : ts[1]? = some (.int .i64 kind)
  t5 : ts[5]? = some p
  t6 : ts[6]? = some sv
  t7 : ts[7]? = some (.int .i64 (cntK hist kind))
  t8 : ts[8]? = some (.int .i64 i)
  box : BoxAt m p B taken hist
  own : TOwn encMsg 32 m sv taken
  dis : ∀ b ∈ blkOf sv, b ∉ B
  sl : TSl encMsg m l L
  slt : ∀ b ∈ blkOf l, b < m.next ∧ b ∉ B ∧ b ∉ blkOf sv
  hl : hist.length = i
  tl : taken.length ≤ i
  hv : ∀ v ∈ hist, 1 ≤ v ∧ v ≤ 5

theorem takes_loop (l : Value) (L : List Msg) (kind : Int) (p : Value) (hL : L.length ≤ 300) : ∀ (d i : Nat) (ts : List Value) (m : Mem) (B : List Nat) (sv : Value) (taken : List Msg) (hist : List Nat), i + d = L.length → TkR l L kind p i ts m B sv taken hist →
    ∃ ts' m' B' sv' taken' hist', Exec S tab (.loop fn3_l0) ts m = some (.exit 0, ts', m') ∧ TkR l L kind p L.length ts' m' B' sv' taken' hist' := by
  intro d
  induction d with
  | zero =>
    intro i ts m B sv taken hist hi R
    obtain rfl : i = L.length := by omega
    have hlt : ¬ ((L.length : Int) < (L.length : Int)) := by omega
    obtain ⟨E, hE⟩ : ∃ E, Exec S tab (.loop fn3_l0) ts m = E := ⟨_, rfl⟩
    have hE2 := hE
    rw [X_loop] at hE2
    simp -implicitDefEqProofs only [fn3_l0, X_seq, X_region, X_cond, X_block, Exec_ret, Exec_skip, Exec_exit, X_cons, X_nil, opsK_some, guardK_true, guardK_false, wanted_none, wanted_some, stepOp, AOp.run, aval, avals, avalO, aparts, plain, putT, runBox, runBuildSlice, List.length_cons, List.length_nil, List.cons_append, List.nil_append, List.replicate_succ, List.replicate_zero, List.length_replicate, Nat.reduceAdd, Nat.reduceSub, Nat.reduceMul, Nat.reduceLT, Nat.reduceLeDiff, Nat.reduceEqDiff, if_true, if_false, reduceIte, Bool.false_eq_true, Bool.true_eq_false, Option.bind_some, Option.map_some, Option.getD_some, List.set_cons_succ, List.set_cons_zero, List.getElem?_cons_succ, List.getElem?_cons_zero, List.length_set, runEqNil, nilKind, bothNil, thenC_normal, thenC_ret, thenC_exit, condK_true, condK_false, mapN_some, mapB_normal, mapB_ret, mapB_exit, leave_ret, leave_normal, resVs, resV, oneOf, Option.isNone_none, Option.isNone_some, runNilck, runFieldAddr, asPtr, runUn, asB, capsOf, Bool.not_true, Bool.not_false, beq_self_eq_true, b_tf, b_ft, cells_agg, cells_int, cells_bool, cells_str, cells_ptr, cells_slice, cells_map, Nat.zero_add, Nat.add_zero, and_self, and_true, true_and, List.getElem?_set, R.len, R.t0, R.t8, R.sl.len, arith, iop, hlt, decide_false] at hE2
    refine ⟨_, m, B, sv, taken, hist, hE.trans hE2.symm, { box := R.box, own := R.own, dis := R.dis, sl := R.sl, slt := R.slt, hl := R.hl, tl := R.tl, hv := R.hv, len := ?_, t0 := ?_, t1 := ?_, t5 := ?_, t6 := ?_, t7 := ?_, t8 := ?_ }⟩ <;>
      simp -implicitDefEqProofs only [X_seq, X_region, X_cond, X_block, Exec_ret, Exec_skip, Exec_exit, X_cons, X_nil, opsK_some, guardK_true, guardK_false, wanted_none, wanted_some, stepOp, AOp.run, aval, avals, avalO, aparts, plain, putT, runBox, runBuildSlice, List.length_cons, List.length_nil, List.cons_append, List.nil_append, List.replicate_succ, List.replicate_zero, List.length_replicate, Nat.reduceAdd, Nat.reduceSub, Nat.reduceMul, Nat.reduceLT, Nat.reduceLeDiff, Nat.reduceEqDiff, if_true, if_false, reduceIte, Bool.false_eq_true, Bool.true_eq_false, Option.bind_some, Option.map_some, Option.getD_some, List.set_cons_succ, List.set_cons_zero, List.getElem?_cons_succ, List.getElem?_cons_zero, List.length_set, runEqNil, nilKind, bothNil, thenC_normal, thenC_ret, thenC_exit, condK_true, condK_false, mapN_some, mapB_normal, mapB_ret, mapB_exit, leave_ret, leave_normal, resVs, resV, oneOf, Option.isNone_none, Option.isNone_some, runNilck, runFieldAddr, asPtr, runUn, asB, capsOf, Bool.not_true, Bool.not_false, beq_self_eq_true, b_tf, b_ft, cells_agg, cells_int, cells_bool, cells_str, cells_ptr, cells_slice, cells_map, Nat.zero_add, Nat.add_zero, and_self, and_true, true_and, List.getElem?_set, R.len, R.t0, R.t1, R.t5, R.t6, R.t7, R.t8]
  | succ d ih =>
    intro i ts m B sv taken hist hi R
    have hin : i < L.length := by omega
    have hlt : (i : Int) < (L.length : Int) := by omega
    obtain ⟨qb, qo, hq1, hq2⟩ := R.sl.at .i64 (List.getElem?_eq_getElem hin)
    rw [esize] at hq1 hq2
    have hwr := wrap_succ (i := i) hin (by omega)
    generalize L[i] = a at hq2
    have hcall15 := ref_verdict a R.own.tsl R.own.lt (by have := R.tl; omega)
    have hu1 : Upd [] m (runBox 32 a.agg m).2 := Upd.add _ _ _
    generalize (runBox 32 a.agg m).2 = m1 at hcall15 hu1
    have sl1 := R.sl.upd hu1 (fun b hb => ⟨(R.slt b hb).1, by simp⟩)
    have ld0 := (hq2 m R.sl).1
    have ld1 := (hq2 m1 sl1).1
    have box1 := R.box.upd hu1 (fun b _ hb => by simp at hb)
    obtain ⟨m2, B', hc16, box2, hu2, hB'⟩ := take_ok a box1 (by have := R.tl; omega) (by have := R.hl; omega)
    have hv15 : 1 ≤ verd taken a ∧ verd taken a ≤ 5 := by have := verd_cases taken a; omega
    have own2 := (R.own.upd hu1 (fun b _ hb => by simp at hb)).upd hu2 R.dis
    have sl2 := sl1.upd hu2 (fun b hb => ⟨by have := (R.slt b hb).1; have := hu1.next; omega, (R.slt b hb).2.1⟩)
    have ld2 := (hq2 m2 sl2).1
    have hnext2 := hu2.next
    have hnext1 := hu1.next
    have hBlt := R.box.lt
    have hsvlt := R.own.lt
    have htk : took taken a = if verd taken a = 1 then taken ++ [a] else taken := rfl
    simp only [Msg.agg] at hcall15 hc16
    generalize hv : verd taken a = v at *
    have b0 : ((v : Int) != (v : Int)) = false := by simp
    have hck : cntK (hist ++ [v]) kind = cntK hist kind + if ((v : Int) == kind) = true then 1 else 0 := by simp [cntK, List.countP_append, List.countP_cons]
    have hcl : cntK hist kind ≤ hist.length := List.countP_le_length
    have hwk : IntKind.i64.wrap ((cntK hist kind : Int) + 1) = ((cntK hist kind + 1 : Nat) : Int) := by rw [wrap_in (by have := R.hl; omega) (by have := R.hl; omega)]; rfl
    have hdis2 : ∀ b ∈ blkOf sv, b ∉ B' := fun b hb hb' => (hB' b hb').elim (R.dis b hb) (fun h => by have := hsvlt b hb; omega)
    have hslB2 : ∀ b ∈ blkOf l, b ∉ B' := fun b hb hb' => (hB' b hb').elim (R.slt b hb).2.1 (fun h => by have := (R.slt b hb).1; omega)
    have hv15' : ∀ x ∈ hist ++ [v], 1 ≤ x ∧ x ≤ 5 := by
      intro x hx
      rcases List.mem_append.1 hx with hx | hx
      · exact R.hv x hx
      · simp at hx; subst hx; exact hv15
    have hround : ∃ ts' m' sv' , Exec S tab fn3_l0 ts m = some (.normal, ts', m') ∧ TkR l L kind p (i + 1) ts' m' B' sv' (took taken a) (hist ++ [v]) := by
      by_cases h1 : v = 1
      · have b1 : ((v : Int) == 1) = true := by simp [h1]
        rw [if_pos h1] at htk
        rw [htk] at box2 ⊢
        have hu3 : Upd [] m2 (m2.add ⟨.cells (encMsg.cells a) 32, false, none⟩) := Upd.add _ _ _
        have own3 := own2.upd hu3 (fun b _ hb => by simp at hb)
        have hg3 : (m2.add ⟨.cells (encMsg.cells a) 32, false, none⟩).get m2.next = some ⟨.cells (encMsg.cells a) 32, false, none⟩ := Mem.get_add_self ..
        have hn3 : (m2.add ⟨.cells (encMsg.cells a) 32, false, none⟩).next = m2.next + 1 := rfl
        generalize hm3 : m2.add ⟨.cells (encMsg.cells a) 32, false, none⟩ = m3 at *
        obtain ⟨sv', m4, ha1, ha2, ha3, ha4, ha5⟩ := own3.append (k := [a]) (eb := 56) (by simp) (by have := R.tl; simp; omega) (by have := R.tl; simp; omega)
        simp only [List.length_cons, List.length_nil, Nat.zero_add, encMsg.flat_one, esize] at ha1
        have hsrc : runSrc 6 (.slice (some ⟨m2.next, 0, none⟩) 1 1) m3 = some (1, encMsg.cells a) := by simp [runSrc, cellsAt_of_get hg3, encMsg.len a, esize, List.take_of_length_le]
        have hfill : afill [.int .i64 0, .int .i64 0, .int .i64 0, .int .i64 0, .int .i64 0, .string ⟨#[]⟩] [(0, 6, a.agg)] = some (encMsg.cells a) := afill_one rfl rfl
        simp only [Msg.agg] at hfill
        have box3 := box2.upd hu3 (fun b _ hb => by simp at hb)
        have box4 := box3.upd ha3 (fun b hb hb' => hdis2 b hb' hb)
        have sl3 := sl2.upd hu3 (fun b hb => ⟨by have := (R.slt b hb).1; omega, by simp⟩)
        have sl4 := sl3.upd ha3 (fun b hb => ⟨by have := (R.slt b hb).1; omega, (R.slt b hb).2.2⟩)
        have hlast := last_ok box4
        have hlen := ha2.tsl.len
        have bl : (((taken ++ [a]).length : Int) != ((taken ++ [a]).length : Int)) = false := by simp
        have hdis4 : ∀ b ∈ blkOf sv', b ∉ B' := fun b hb hb' => by
          rw [ha5] at hb; simp at hb; have := box2.lt b hb'; omega
        have hslt4 : ∀ b ∈ blkOf l, b < m4.next ∧ b ∉ B' ∧ b ∉ blkOf sv' := fun b hb => ⟨by have := (R.slt b hb).1; omega, hslB2 b hb, fun hb' => by
          rw [ha5] at hb'; simp at hb'; have := (R.slt b hb).1; omega⟩
        by_cases hk : ((v : Int) == kind) = true
        · rw [if_pos hk] at hck
          obtain ⟨E, hE⟩ : ∃ E, Exec S tab fn3_l0 ts m = E := ⟨_, rfl⟩
          have hE2 := hE
          simp -implicitDefEqProofs only [fn3_l0, X_seq, X_region, X_cond, X_block, Exec_ret, Exec_skip, Exec_exit, X_cons, X_nil, opsK_some, guardK_true, guardK_false, wanted_none, wanted_some, stepOp, AOp.run, aval, avals, avalO, aparts, plain, putT, runBox, runBuildSlice, List.length_cons, List.length_nil, List.cons_append, List.nil_append, List.replicate_succ, List.replicate_zero, List.length_replicate, Nat.reduceAdd, Nat.reduceSub, Nat.reduceMul, Nat.reduceLT, Nat.reduceLeDiff, Nat.reduceEqDiff, if_true, if_false, reduceIte, Bool.false_eq_true, Bool.true_eq_false, Option.bind_some, Option.map_some, Option.getD_some, List.set_cons_succ, List.set_cons_zero, List.getElem?_cons_succ, List.getElem?_cons_zero, List.length_set, runEqNil, nilKind, bothNil, thenC_normal, thenC_ret, thenC_exit, condK_true, condK_false, mapN_some, mapB_normal, mapB_ret, mapB_exit, leave_ret, leave_normal, resVs, resV, oneOf, Option.isNone_none, Option.isNone_some, runNilck, runFieldAddr, asPtr, runUn, asB, capsOf, Bool.not_true, Bool.not_false, beq_self_eq_true, b_tf, b_ft, cells_agg, cells_int, cells_bool, cells_str, cells_ptr, cells_slice, cells_map, Nat.zero_add, Nat.add_zero, and_self, and_true, true_and, List.getElem?_set, R.len, R.t0, R.t1, R.t5, R.t6, R.t7, R.t8, R.sl.len, arith, iop, hlt, decide_true, hq1, ld0, hcall15, ld1, hc16, b0, b1, hk, ld2, hfill, hm3, hsrc, ha1, hwk, hlast, hlen, bl, hwr] at hE2
          refine ⟨_, m4, sv', hE.trans hE2.symm, { box := box4, own := ha2, dis := hdis4, sl := sl4, slt := hslt4, hl := by simp [R.hl], tl := by have := R.tl; simp; omega, hv := hv15', len := ?_, t0 := ?_, t1 := ?_, t5 := ?_, t6 := ?_, t7 := ?_, t8 := ?_ }⟩ <;>
            simp -implicitDefEqProofs only [X_seq, X_region, X_cond, X_block, Exec_ret, Exec_skip, Exec_exit, X_cons, X_nil, opsK_some, guardK_true, guardK_false, wanted_none, wanted_some, stepOp, AOp.run, aval, avals, avalO, aparts, plain, putT, runBox, runBuildSlice, List.length_cons, List.length_nil, List.cons_append, List.nil_append, List.replicate_succ, List.replicate_zero, List.length_replicate, Nat.reduceAdd, Nat.reduceSub, Nat.reduceMul, Nat.reduceLT, Nat.reduceLeDiff, Nat.reduceEqDiff, if_true, if_false, reduceIte, Bool.false_eq_true, Bool.true_eq_false, Option.bind_some, Option.map_some, Option.getD_some, List.set_cons_succ, List.set_cons_zero, List.getElem?_cons_succ, List.getElem?_cons_zero, List.length_set, runEqNil, nilKind, bothNil, thenC_normal, thenC_ret, thenC_exit, condK_true, condK_false, mapN_some, mapB_normal, mapB_ret, mapB_exit, leave_ret, leave_normal, resVs, resV, oneOf, Option.isNone_none, Option.isNone_some, runNilck, runFieldAddr, asPtr, runUn, asB, capsOf, Bool.not_true, Bool.not_false, beq_self_eq_true, b_tf, b_ft, cells_agg, cells_int, cells_bool, cells_str, cells_ptr, cells_slice, cells_map, Nat.zero_add, Nat.add_zero, and_self, and_true, true_and, List.getElem?_set, R.len, R.t0, R.t1, R.t5, R.t6, R.t7, R.t8, hck]
        · have hk : ((v : Int) == kind) = false := by simpa using hk
          rw [hk] at hck
          simp only [Bool.false_eq_true, if_false, Nat.add_zero] at hck
          obtain ⟨E, hE⟩ : ∃ E, Exec S tab fn3_l0 ts m = E := ⟨_, rfl⟩
          have hE2 := hE
          simp -implicitDefEqProofs only [fn3_l0, X_seq, X_region, X_cond, X_block, Exec_ret, Exec_skip, Exec_exit, X_cons, X_nil, opsK_some, guardK_true, guardK_false, wanted_none, wanted_some, stepOp, AOp.run, aval, avals, avalO, aparts, plain, putT, runBox, runBuildSlice, List.length_cons, List.length_nil, List.cons_append, List.nil_append, List.replicate_succ, List.replicate_zero, List.length_replicate, Nat.reduceAdd, Nat.reduceSub, Nat.reduceMul, Nat.reduceLT, Nat.reduceLeDiff, Nat.reduceEqDiff, if_true, if_false, reduceIte, Bool.false_eq_true, Bool.true_eq_false, Option.bind_some, Option.map_some, Option.getD_some, List.set_cons_succ, List.set_cons_zero, List.getElem?_cons_succ, List.getElem?_cons_zero, List.length_set, runEqNil, nilKind, bothNil, thenC_normal, thenC_ret, thenC_exit, condK_true, condK_false, mapN_some, mapB_normal, mapB_ret, mapB_exit, leave_ret, leave_normal, resVs, resV, oneOf, Option.isNone_none, Option.isNone_some, runNilck, runFieldAddr, asPtr, runUn, asB, capsOf, Bool.not_true, Bool.not_false, beq_self_eq_true, b_tf, b_ft, cells_agg, cells_int, cells_bool, cells_str, cells_ptr, cells_slice, cells_map, Nat.zero_add, Nat.add_zero, and_self, and_true, true_and, List.getElem?_set, R.len, R.t0, R.t1, R.t5, R.t6, R.t7, R.t8, R.sl.len, arith, iop, hlt, decide_true, hq1, ld0, hcall15, ld1, hc16, b0, b1, hk, ld2, hfill, hm3, hsrc, ha1, hwk, hlast, hlen, bl, hwr] at hE2
          refine ⟨_, m4, sv', hE.trans hE2.symm, { box := box4, own := ha2, dis := hdis4, sl := sl4, slt := hslt4, hl := by simp [R.hl], tl := by have := R.tl; simp; omega, hv := hv15', len := ?_, t0 := ?_, t1 := ?_, t5 := ?_, t6 := ?_, t7 := ?_, t8 := ?_ }⟩ <;>
            simp -implicitDefEqProofs only [X_seq, X_region, X_cond, X_block, Exec_ret, Exec_skip, Exec_exit, X_cons, X_nil, opsK_some, guardK_true, guardK_false, wanted_none, wanted_some, stepOp, AOp.run, aval, avals, avalO, aparts, plain, putT, runBox, runBuildSlice, List.length_cons, List.length_nil, List.cons_append, List.nil_append, List.replicate_succ, List.replicate_zero, List.length_replicate, Nat.reduceAdd, Nat.reduceSub, Nat.reduceMul, Nat.reduceLT, Nat.reduceLeDiff, Nat.reduceEqDiff, if_true, if_false, reduceIte, Bool.false_eq_true, Bool.true_eq_false, Option.bind_some, Option.map_some, Option.getD_some, List.set_cons_succ, List.set_cons_zero, List.getElem?_cons_succ, List.getElem?_cons_zero, List.length_set, runEqNil, nilKind, bothNil, thenC_normal, thenC_ret, thenC_exit, condK_true, condK_false, mapN_some, mapB_normal, mapB_ret, mapB_exit, leave_ret, leave_normal, resVs, resV, oneOf, Option.isNone_none, Option.isNone_some, runNilck, runFieldAddr, asPtr, runUn, asB, capsOf, Bool.not_true, Bool.not_false, beq_self_eq_true, b_tf, b_ft, cells_agg, cells_int, cells_bool, cells_str, cells_ptr, cells_slice, cells_map, Nat.zero_add, Nat.add_zero, and_self, and_true, true_and, List.getElem?_set, R.len, R.t0, R.t1, R.t5, R.t6, R.t7, R.t8, hck]
      · have b1 : ((v : Int) == 1) = false := by simpa using (by omega : ¬ (v : Int) = 1)
        rw [if_neg h1] at htk
        rw [htk] at box2 ⊢
        have hlast := last_ok box2
        have hlen := own2.tsl.len
        have bl : ((taken.length : Int) != (taken.length : Int)) = false := by simp
        have hslt2 : ∀ b ∈ blkOf l, b < m2.next ∧ b ∉ B' ∧ b ∉ blkOf sv := fun b hb => ⟨by have := (R.slt b hb).1; omega, hslB2 b hb, (R.slt b hb).2.2⟩
        by_cases hk : ((v : Int) == kind) = true
        · rw [if_pos hk] at hck
          obtain ⟨E, hE⟩ : ∃ E, Exec S tab fn3_l0 ts m = E := ⟨_, rfl⟩
          have hE2 := hE
          simp -implicitDefEqProofs only [fn3_l0, X_seq, X_region, X_cond, X_block, Exec_ret, Exec_skip, Exec_exit, X_cons, X_nil, opsK_some, guardK_true, guardK_false, wanted_none, wanted_some, stepOp, AOp.run, aval, avals, avalO, aparts, plain, putT, runBox, runBuildSlice, List.length_cons, List.length_nil, List.cons_append, List.nil_append, List.replicate_succ, List.replicate_zero, List.length_replicate, Nat.reduceAdd, Nat.reduceSub, Nat.reduceMul, Nat.reduceLT, Nat.reduceLeDiff, Nat.reduceEqDiff, if_true, if_false, reduceIte, Bool.false_eq_true, Bool.true_eq_false, Option.bind_some, Option.map_some, Option.getD_some, List.set_cons_succ, List.set_cons_zero, List.getElem?_cons_succ, List.getElem?_cons_zero, List.length_set, runEqNil, nilKind, bothNil, thenC_normal, thenC_ret, thenC_exit, condK_true, condK_false, mapN_some, mapB_normal, mapB_ret, mapB_exit, leave_ret, leave_normal, resVs, resV, oneOf, Option.isNone_none, Option.isNone_some, runNilck, runFieldAddr, asPtr, runUn, asB, capsOf, Bool.not_true, Bool.not_false, beq_self_eq_true, b_tf, b_ft, cells_agg, cells_int, cells_bool, cells_str, cells_ptr, cells_slice, cells_map, Nat.zero_add, Nat.add_zero, and_self, and_true, true_and, List.getElem?_set, R.len, R.t0, R.t1, R.t5, R.t6, R.t7, R.t8, R.sl.len, arith, iop, hlt, decide_true, hq1, ld0, hcall15, ld1, hc16, b0, b1, hk, hwk, hlast, hlen, bl, hwr] at hE2
          refine ⟨_, m2, sv, hE.trans hE2.symm, { box := box2, own := own2, dis := hdis2, sl := sl2, slt := hslt2, hl := by simp [R.hl], tl := by have := R.tl; omega, hv := hv15', len := ?_, t0 := ?_, t1 := ?_, t5 := ?_, t6 := ?_, t7 := ?_, t8 := ?_ }⟩ <;>
            simp -implicitDefEqProofs only [X_seq, X_region, X_cond, X_block, Exec_ret, Exec_skip, Exec_exit, X_cons, X_nil, opsK_some, guardK_true, guardK_false, wanted_none, wanted_some, stepOp, AOp.run, aval, avals, avalO, aparts, plain, putT, runBox, runBuildSlice, List.length_cons, List.length_nil, List.cons_append, List.nil_append, List.replicate_succ, List.replicate_zero, List.length_replicate, Nat.reduceAdd, Nat.reduceSub, Nat.reduceMul, Nat.reduceLT, Nat.reduceLeDiff, Nat.reduceEqDiff, if_true, if_false, reduceIte, Bool.false_eq_true, Bool.true_eq_false, Option.bind_some, Option.map_some, Option.getD_some, List.set_cons_succ, List.set_cons_zero, List.getElem?_cons_succ, List.getElem?_cons_zero, List.length_set, runEqNil, nilKind, bothNil, thenC_normal, thenC_ret, thenC_exit, condK_true, condK_false, mapN_some, mapB_normal, mapB_ret, mapB_exit, leave_ret, leave_normal, resVs, resV, oneOf, Option.isNone_none, Option.isNone_some, runNilck, runFieldAddr, asPtr, runUn, asB, capsOf, Bool.not_true, Bool.not_false, beq_self_eq_true, b_tf, b_ft, cells_agg, cells_int, cells_bool, cells_str, cells_ptr, cells_slice, cells_map, Nat.zero_add, Nat.add_zero, and_self, and_true, true_and, List.getElem?_set, R.len, R.t0, R.t1, R.t5, R.t6, R.t7, R.t8, hck]
        · have hk : ((v : Int) == kind) = false := by simpa using hk
          rw [hk] at hck
          simp only [Bool.false_eq_true, if_false, Nat.add_zero] at hck
          obtain ⟨E, hE⟩ : ∃ E, Exec S tab fn3_l0 ts m = E := ⟨_, rfl⟩
          have hE2 := hE
          simp -implicitDefEqProofs only [fn3_l0, X_seq, X_region, X_cond, X_block, Exec_ret, Exec_skip, Exec_exit, X_cons, X_nil, opsK_some, guardK_true, guardK_false, wanted_none, wanted_some, stepOp, AOp.run, aval, avals, avalO, aparts, plain, putT, runBox, runBuildSlice, List.length_cons, List.length_nil, List.cons_append, List.nil_append, List.replicate_succ, List.replicate_zero, List.length_replicate, Nat.reduceAdd, Nat.reduceSub, Nat.reduceMul, Nat.reduceLT, Nat.reduceLeDiff, Nat.reduceEqDiff, if_true, if_false, reduceIte, Bool.false_eq_true, Bool.true_eq_false, Option.bind_some, Option.map_some, Option.getD_some, List.set_cons_succ, List.set_cons_zero, List.getElem?_cons_succ, List.getElem?_cons_zero, List.length_set, runEqNil, nilKind, bothNil, thenC_normal, thenC_ret, thenC_exit, condK_true, condK_false, mapN_some, mapB_normal, mapB_ret, mapB_exit, leave_ret, leave_normal, resVs, resV, oneOf, Option.isNone_none, Option.isNone_some, runNilck, runFieldAddr, asPtr, runUn, asB, capsOf, Bool.not_true, Bool.not_false, beq_self_eq_true, b_tf, b_ft, cells_agg, cells_int, cells_bool, cells_str, cells_ptr, cells_slice, cells_map, Nat.zero_add, Nat.add_zero, and_self, and_true, true_and, List.getElem?_set, R.len, R.t0, R.t1, R.t5, R.t6, R.t7, R.t8, R.sl.len, arith, iop, hlt, decide_true, hq1, ld0, hcall15, ld1, hc16, b0, b1, hk, hwk, hlast, hlen, bl, hwr] at hE2
          refine ⟨_, m2, sv, hE.trans hE2.symm, { box := box2, own := own2, dis := hdis2, sl := sl2, slt := hslt2, hl := by simp [R.hl], tl := by have := R.tl; omega, hv := hv15', len := ?_, t0 := ?_, t1 := ?_, t5 := ?_, t6 := ?_, t7 := ?_, t8 := ?_ }⟩ <;>
            simp -implicitDefEqProofs only [X_seq, X_region, X_cond, X_block, Exec_ret, Exec_skip, Exec_exit, X_cons, X_nil, opsK_some, guardK_true, guardK_false, wanted_none, wanted_some, stepOp, AOp.run, aval, avals, avalO, aparts, plain, putT, runBox, runBuildSlice, List.length_cons, List.length_nil, List.cons_append, List.nil_append, List.replicate_succ, List.replicate_zero, List.length_replicate, Nat.reduceAdd, Nat.reduceSub, Nat.reduceMul, Nat.reduceLT, Nat.reduceLeDiff, Nat.reduceEqDiff, if_true, if_false, reduceIte, Bool.false_eq_true, Bool.true_eq_false, Option.bind_some, Option.map_some, Option.getD_some, List.set_cons_succ, List.set_cons_zero, List.getElem?_cons_succ, List.getElem?_cons_zero, List.length_set, runEqNil, nilKind, bothNil, thenC_normal, thenC_ret, thenC_exit, condK_true, condK_false, mapN_some, mapB_normal, mapB_ret, mapB_exit, leave_ret, leave_normal, resVs, resV, oneOf, Option.isNone_none, Option.isNone_some, runNilck, runFieldAddr, asPtr, runUn, asB, capsOf, Bool.not_true, Bool.not_false, beq_self_eq_true, b_tf, b_ft, cells_agg, cells_int, cells_bool, cells_str, cells_ptr, cells_slice, cells_map, Nat.zero_add, Nat.add_zero, and_self, and_true, true_and, List.getElem?_set, R.len, R.t0, R.t1, R.t5, R.t6, R.t7, R.t8, hck]
    obtain ⟨ts', m', sv', hr1, hr2⟩ := hround
    obtain ⟨ts'', m'', B'', sv'', taken'', hist'', g1, g2⟩ := ih (i + 1) ts' m' B' sv' _ _ (by omega) hr2
    exact ⟨ts'', m'', B'', sv'', taken'', hist'', by rw [X_loop, hr1, thenC_normal]; exact g1, g2⟩

theorem cntK_none {hist : List Nat} {kind : Int} (hv : ∀ v ∈ hist, 1 ≤ v ∧ v ≤ 5) (hk : kind < 1 ∨ kind > 5) : cntK hist kind = 0 := by
  unfold cntK
  rw [List.countP_eq_zero]
  intro v hvm
  have := hv v hvm
  simp; omega
theorem cntK_nat (hist : List Nat) (k : Nat) : cntK hist (k : Int) = hist.count k := by
  unfold cntK List.count
  congr 1
  funext v
  rw [Bool.eq_iff_iff]
  simp; omega

theorem inboxTakes {m : Mem} {v : Value} {l : List Msg} (kind : Int) (h : TSl encMsg m v l) (hn : l.length ≤ maxLen) (hb : ∀ b ∈ blkOf v, b < m.next) : ∃ m', Call S tab 3 [v, .int .i64 kind] m = some (.bool true, m') := by
  obtain ⟨w, he1, he2, he3⟩ := early_ok h hn
  obtain ⟨p, m1, hn1, hbox, hu1⟩ := new_ok m
  have hL : (l.take 300).length ≤ 300 := by simp; omega
  have hwb : ∀ b ∈ blkOf w, b < m.next := fun b hbw => hb b (he3 ▸ hbw)
  have hbn := hbox.lt m.next (by simp)
  obtain ⟨ts, m2, B, sv, taken, hist, h1, R⟩ := takes_loop w (l.take 300) kind p hL (l.take 300).length 0
    ([w, .int .i64 kind, undef, undef, .bool false, p, .slice none 0 0, .int .i64 0, .int .i64 0, undef, .bool true, .bool false, v, w, p] ++ List.replicate 50 undef) m1 [m.next] (.slice none 0 0) [] [] (by omega)
    ⟨by simp, rfl, rfl, rfl, rfl, rfl, rfl, hbox, TOwn.nil _ _, fun b hb => by simp [blkOf] at hb, he2.upd hu1 (fun b hb' => ⟨hwb b hb', by simp⟩), fun b hb' => ⟨by have := hwb b hb'; omega, by simp; have := hwb b hb'; omega, by simp [blkOf]⟩, rfl, by simp, fun v hv => by cases hv⟩
  simp only [List.replicate_succ, List.replicate_zero, List.cons_append, List.nil_append] at h1
  obtain ⟨av, m3, ha1, ha2, ha3, ha4⟩ := all_ok R.box (by have := R.tl; omega)
  have hsame := same_ok ha2.tsl (R.own.upd ha3 (fun b _ hb => by simp at hb)).tsl (by have := R.tl; omega)
  rw [show decide (taken = taken) = true by simp] at hsame
  have box3 := R.box.upd ha3 (fun b _ hb => by simp at hb)
  have hcount : Call S tab 20 [p, .int .i64 kind] m3 = some (.int .i64 (cntK hist kind), m3) := by
    by_cases hk : kind < 1 ∨ kind > 5
    · rw [cntK_none R.hv hk]; exact count_none box3 hk
    · obtain ⟨k, rfl⟩ : ∃ k : Nat, kind = k := ⟨kind.toNat, by omega⟩
      rw [cntK_nat]; exact count_ok box3 (by omega) (by omega)
  refine ⟨m3, ?_⟩
  rw [eq3]
  simp -implicitDefEqProofs only [fn3, X_seq, X_region, X_cond, X_block, Exec_ret, Exec_skip, Exec_exit, X_cons, X_nil, opsK_some, guardK_true, guardK_false, wanted_none, wanted_some, stepOp, AOp.run, aval, avals, avalO, aparts, plain, putT, runBox, runBuildSlice, List.length_cons, List.length_nil, List.cons_append, List.nil_append, List.replicate_succ, List.replicate_zero, List.length_replicate, Nat.reduceAdd, Nat.reduceSub, Nat.reduceMul, Nat.reduceLT, Nat.reduceLeDiff, Nat.reduceEqDiff, if_true, if_false, reduceIte, Bool.false_eq_true, Bool.true_eq_false, Option.bind_some, Option.map_some, Option.getD_some, List.set_cons_succ, List.set_cons_zero, List.getElem?_cons_succ, List.getElem?_cons_zero, List.length_set, runEqNil, nilKind, bothNil, thenC_normal, thenC_ret, thenC_exit, condK_true, condK_false, mapN_some, mapB_normal, mapB_ret, mapB_exit, leave_ret, leave_normal, resVs, resV, oneOf, Option.isNone_none, Option.isNone_some, runNilck, runFieldAddr, asPtr, runUn, asB, capsOf, Bool.not_true, Bool.not_false, beq_self_eq_true, b_tf, b_ft, cells_agg, cells_int, cells_bool, cells_str, cells_ptr, cells_slice, cells_map, Nat.zero_add, Nat.add_zero, and_self, and_true, true_and, eq12, he1, hn1, h1, List.getElem?_set, R.len, R.t0, R.t1, R.t5, R.t6, R.t7, ha1, hsame, hcount, arith, iop, beq_self_eq_true]

end Go.Fx.Try
