/- Inbox: a box, and what becomes of a message. -/
import Derived.Test.YtbihanbnnhipjaaTab
import Derived.Test.YtbihanbnnhipjaaFxDr
namespace Go.Fx.Try
open Go Go.Fx
set_option linter.unusedSimpArgs false
set_option linter.unusedVariables false

structure Msg where
  seq : Int
  flow : Int
  step : Int
  kind : Int
  n : Int
  s : ByteArray
  deriving DecidableEq

def encMsg : Enc Msg := ⟨6, fun a => [.int .i64 a.seq, .int .i64 a.flow, .int .i64 a.step, .int .i64 a.kind, .int .i64 a.n, .string a.s], fun _ => rfl, fun _ => rfl⟩
def Msg.agg (a : Msg) : Value := .agg (encMsg.cells a).toArray

def dMsg : EqD := .st [(0, 1, false, .sc .int), (1, 1, false, .sc .int), (2, 1, false, .sc .int), (3, 3, true, .st [(0, 1, false, .sc .int), (1, 1, false, .sc .int), (2, 1, false, .sc .string)])]
theorem beq_bytes (a b : ByteArray) : (a == b) = decide (a = b) := by
  obtain ⟨⟨a⟩⟩ := a
  obtain ⟨⟨b⟩⟩ := b
  rw [Bool.eq_iff_iff, decide_eq_true_eq, ByteArray.mk.injEq, ← beq_iff_eq (α := Array UInt8)]
  exact Iff.rfl

theorem esize : encMsg.size = 6 := rfl

theorem eq_msg (neg : Bool) (a b : Msg) : runEq neg dMsg a.agg b.agg = some (.bool (if neg then !decide (a = b) else decide (a = b))) := by
  have : aeqD dMsg a.agg b.agg = some (decide (a = b)) := by
    obtain ⟨a1, a2, a3, a4, a5, a6⟩ := a
    obtain ⟨b1, b2, b3, b4, b5, b6⟩ := b
    have e1 : (a1 == b1) = decide (a1 = b1) := rfl
    have e2 : (a2 == b2) = decide (a2 = b2) := rfl
    have e3 : (a3 == b3) = decide (a3 = b3) := rfl
    have e4 : (a4 == b4) = decide (a4 = b4) := rfl
    have e5 : (a5 == b5) = decide (a5 = b5) := rfl
    have e6 := beq_bytes a6 b6
    have hd : decide ((⟨a1, a2, a3, a4, a5, a6⟩ : Msg) = ⟨b1, b2, b3, b4, b5, b6⟩) = (decide (a1 = b1) && (decide (a2 = b2) && (decide (a3 = b3) && (decide (a4 = b4) && (decide (a5 = b5) && decide (a6 = b6)))))) := by
      simp [Msg.mk.injEq]
    rw [hd]
    simp only [dMsg, Msg.agg, encMsg, aeqD, aeqFs, aeq1, partOf, e1, e2, e3, if_true, List.getElem?_toArray, List.getElem?_cons_zero, List.getElem?_cons_succ, Bool.false_eq_true, if_false]
    have hx : ∀ x y z : Value, ∀ l : List Value, (l ++ [x, y, z]).toArray.extract l.length (l.length + 3) = #[x, y, z] := by
      intro x y z l
      simp
    cases decide (a1 = b1)
    · rfl
    cases decide (a2 = b2)
    · rfl
    cases decide (a3 = b3)
    · rfl
    simp only [List.extract_toArray, List.extract_eq_take_drop]
    simp only [aeqD, aeqFs, aeq1, partOf, e4, e5, e6, if_true, List.drop_succ_cons, List.drop_zero, List.take_succ_cons, List.take_zero, Nat.reduceAdd, Nat.reduceSub, List.getElem?_toArray, List.getElem?_cons_zero, List.getElem?_cons_succ, Bool.false_eq_true, if_false]
    cases decide (a4 = b4) <;> cases decide (a5 = b5) <;> cases decide (a6 = b6) <;> rfl
  simp [runEq, this]

def verd (taken : List Msg) (a : Msg) : Nat :=
  if a.seq < 1 then 5 else if a.seq > taken.length + 1 then 3 else if a.seq = taken.length + 1 then 1 else if taken[(a.seq - 1).toNat]? = some a then 2 else 4

theorem ref_verdict {m : Mem} {v : Value} {taken : List Msg} (a : Msg) (h : TSl encMsg m v taken) (hb : ∀ b ∈ blkOf v, b < m.next) (hn : taken.length ≤ 2 ^ 40) :
    Call S tab 15 [v, a.agg] m = some (.int .i64 (verd taken a), (runBox 32 a.agg m).2) := by
  have hlen := h.len
  have hg : (m.add ⟨.cells (encMsg.cells a) 32, false, none⟩).get m.next = some ⟨.cells (encMsg.cells a) 32, false, none⟩ := Mem.get_add_self ..
  have hseq := load_at (o := 0) hg (v := .int .i64 a.seq) rfl
  have hwh := load_whole (n := 6) hg rfl
  have hm : Upd [] m (m.add ⟨.cells (encMsg.cells a) 32, false, none⟩) := Upd.add _ _ _
  have h' := h.upd hm (fun b hb' => ⟨hb b hb', by simp⟩)
  have hw1 : IntKind.i64.wrap ((taken.length : Int) + 1) = (taken.length : Int) + 1 := wrap_in (by omega) (by omega)
  rw [eq15]
  by_cases h1 : a.seq < 1
  · simp -implicitDefEqProofs only [fn15, X_seq, X_region, X_cond, X_block, Exec_ret, Exec_skip, Exec_exit, X_cons, X_nil, opsK_some, guardK_true, guardK_false, wanted_none, wanted_some, stepOp, AOp.run, aval, avals, avalO, aparts, plain, putT, runBox, runBuildSlice, List.length_cons, List.length_nil, List.cons_append, List.nil_append, List.replicate_succ, List.replicate_zero, List.length_replicate, Nat.reduceAdd, Nat.reduceSub, Nat.reduceMul, Nat.reduceLT, Nat.reduceLeDiff, Nat.reduceEqDiff, if_true, if_false, reduceIte, Bool.false_eq_true, Bool.true_eq_false, Option.bind_some, Option.map_some, Option.getD_some, List.set_cons_succ, List.set_cons_zero, List.getElem?_cons_succ, List.getElem?_cons_zero, List.length_set, runEqNil, nilKind, bothNil, thenC_normal, thenC_ret, thenC_exit, condK_true, condK_false, mapN_some, mapB_normal, mapB_ret, mapB_exit, leave_ret, leave_normal, resVs, resV, oneOf, Option.isNone_none, Option.isNone_some, runNilck, runFieldAddr, asPtr, runUn, asB, capsOf, Bool.not_true, Bool.not_false, beq_self_eq_true, b_tf, b_ft, cells_agg, cells_int, cells_bool, cells_str, cells_ptr, cells_slice, cells_map, Nat.zero_add, Nat.add_zero, and_self, and_true, true_and, verd, if_pos h1, Msg.agg, runBox, hseq, arith, iop, h1, decide_true]
    rfl
  · have b1 : decide (a.seq < 1) = false := by simpa using h1
    by_cases h2 : a.seq > (taken.length : Int) + 1
    · simp -implicitDefEqProofs only [fn15, X_seq, X_region, X_cond, X_block, Exec_ret, Exec_skip, Exec_exit, X_cons, X_nil, opsK_some, guardK_true, guardK_false, wanted_none, wanted_some, stepOp, AOp.run, aval, avals, avalO, aparts, plain, putT, runBox, runBuildSlice, List.length_cons, List.length_nil, List.cons_append, List.nil_append, List.replicate_succ, List.replicate_zero, List.length_replicate, Nat.reduceAdd, Nat.reduceSub, Nat.reduceMul, Nat.reduceLT, Nat.reduceLeDiff, Nat.reduceEqDiff, if_true, if_false, reduceIte, Bool.false_eq_true, Bool.true_eq_false, Option.bind_some, Option.map_some, Option.getD_some, List.set_cons_succ, List.set_cons_zero, List.getElem?_cons_succ, List.getElem?_cons_zero, List.length_set, runEqNil, nilKind, bothNil, thenC_normal, thenC_ret, thenC_exit, condK_true, condK_false, mapN_some, mapB_normal, mapB_ret, mapB_exit, leave_ret, leave_normal, resVs, resV, oneOf, Option.isNone_none, Option.isNone_some, runNilck, runFieldAddr, asPtr, runUn, asB, capsOf, Bool.not_true, Bool.not_false, beq_self_eq_true, b_tf, b_ft, cells_agg, cells_int, cells_bool, cells_str, cells_ptr, cells_slice, cells_map, Nat.zero_add, Nat.add_zero, and_self, and_true, true_and, verd, if_neg h1, if_pos h2, Msg.agg, runBox, hseq, hlen, hw1, arith, iop, b1, h2, decide_true]
      rfl
    · have b2 : decide (a.seq > (taken.length : Int) + 1) = false := by simpa using h2
      by_cases h3 : a.seq = (taken.length : Int) + 1
      · have b3 : (a.seq == (taken.length : Int) + 1) = true := by simpa using h3
        simp -implicitDefEqProofs only [fn15, X_seq, X_region, X_cond, X_block, Exec_ret, Exec_skip, Exec_exit, X_cons, X_nil, opsK_some, guardK_true, guardK_false, wanted_none, wanted_some, stepOp, AOp.run, aval, avals, avalO, aparts, plain, putT, runBox, runBuildSlice, List.length_cons, List.length_nil, List.cons_append, List.nil_append, List.replicate_succ, List.replicate_zero, List.length_replicate, Nat.reduceAdd, Nat.reduceSub, Nat.reduceMul, Nat.reduceLT, Nat.reduceLeDiff, Nat.reduceEqDiff, if_true, if_false, reduceIte, Bool.false_eq_true, Bool.true_eq_false, Option.bind_some, Option.map_some, Option.getD_some, List.set_cons_succ, List.set_cons_zero, List.getElem?_cons_succ, List.getElem?_cons_zero, List.length_set, runEqNil, nilKind, bothNil, thenC_normal, thenC_ret, thenC_exit, condK_true, condK_false, mapN_some, mapB_normal, mapB_ret, mapB_exit, leave_ret, leave_normal, resVs, resV, oneOf, Option.isNone_none, Option.isNone_some, runNilck, runFieldAddr, asPtr, runUn, asB, capsOf, Bool.not_true, Bool.not_false, beq_self_eq_true, b_tf, b_ft, cells_agg, cells_int, cells_bool, cells_str, cells_ptr, cells_slice, cells_map, Nat.zero_add, Nat.add_zero, and_self, and_true, true_and, verd, if_neg h1, if_neg h2, if_pos h3, Msg.agg, runBox, hseq, hlen, hw1, arith, iop, b1, b2, b3]
        rfl
      · have b3 : (a.seq == (taken.length : Int) + 1) = false := by simpa using h3
        obtain ⟨j, hj, hjt⟩ : ∃ j : Nat, a.seq - 1 = j ∧ j < taken.length := ⟨(a.seq - 1).toNat, by omega, by omega⟩
        have hjn : (a.seq - 1).toNat = j := by omega
        have hw2 : IntKind.i64.wrap (a.seq - 1) = (j : Int) := by rw [hj]; exact wrap_in (by omega) (by omega)
        obtain ⟨p, hp1, hp2, _⟩ := h'.index .i64 (List.getElem?_eq_getElem hjt)
        rw [esize] at hp1 hp2
        have heq := eq_msg false taken[j] a
        simp only [Msg.agg, dMsg] at heq
        by_cases h4 : taken[j] = a
        · rw [h4] at hp2 heq
          simp -implicitDefEqProofs only [fn15, X_seq, X_region, X_cond, X_block, Exec_ret, Exec_skip, Exec_exit, X_cons, X_nil, opsK_some, guardK_true, guardK_false, wanted_none, wanted_some, stepOp, AOp.run, aval, avals, avalO, aparts, plain, putT, runBox, runBuildSlice, List.length_cons, List.length_nil, List.cons_append, List.nil_append, List.replicate_succ, List.replicate_zero, List.length_replicate, Nat.reduceAdd, Nat.reduceSub, Nat.reduceMul, Nat.reduceLT, Nat.reduceLeDiff, Nat.reduceEqDiff, if_true, if_false, reduceIte, Bool.false_eq_true, Bool.true_eq_false, Option.bind_some, Option.map_some, Option.getD_some, List.set_cons_succ, List.set_cons_zero, List.getElem?_cons_succ, List.getElem?_cons_zero, List.length_set, runEqNil, nilKind, bothNil, thenC_normal, thenC_ret, thenC_exit, condK_true, condK_false, mapN_some, mapB_normal, mapB_ret, mapB_exit, leave_ret, leave_normal, resVs, resV, oneOf, Option.isNone_none, Option.isNone_some, runNilck, runFieldAddr, asPtr, runUn, asB, capsOf, Bool.not_true, Bool.not_false, beq_self_eq_true, b_tf, b_ft, cells_agg, cells_int, cells_bool, cells_str, cells_ptr, cells_slice, cells_map, Nat.zero_add, Nat.add_zero, and_self, and_true, true_and, verd, if_neg h1, if_neg h2, if_neg h3, hjn, List.getElem?_eq_getElem hjt, h4, Msg.agg, runBox, hseq, hlen, hw1, hw2, hp1, hp2, hwh, heq, arith, iop, b1, b2, b3, decide_true]
          rfl
        · have h4' : ¬ (some taken[j] = some a) := by simpa using h4
          simp -implicitDefEqProofs only [fn15, X_seq, X_region, X_cond, X_block, Exec_ret, Exec_skip, Exec_exit, X_cons, X_nil, opsK_some, guardK_true, guardK_false, wanted_none, wanted_some, stepOp, AOp.run, aval, avals, avalO, aparts, plain, putT, runBox, runBuildSlice, List.length_cons, List.length_nil, List.cons_append, List.nil_append, List.replicate_succ, List.replicate_zero, List.length_replicate, Nat.reduceAdd, Nat.reduceSub, Nat.reduceMul, Nat.reduceLT, Nat.reduceLeDiff, Nat.reduceEqDiff, if_true, if_false, reduceIte, Bool.false_eq_true, Bool.true_eq_false, Option.bind_some, Option.map_some, Option.getD_some, List.set_cons_succ, List.set_cons_zero, List.getElem?_cons_succ, List.getElem?_cons_zero, List.length_set, runEqNil, nilKind, bothNil, thenC_normal, thenC_ret, thenC_exit, condK_true, condK_false, mapN_some, mapB_normal, mapB_ret, mapB_exit, leave_ret, leave_normal, resVs, resV, oneOf, Option.isNone_none, Option.isNone_some, runNilck, runFieldAddr, asPtr, runUn, asB, capsOf, Bool.not_true, Bool.not_false, beq_self_eq_true, b_tf, b_ft, cells_agg, cells_int, cells_bool, cells_str, cells_ptr, cells_slice, cells_map, Nat.zero_add, Nat.add_zero, and_self, and_true, true_and, verd, if_neg h1, if_neg h2, if_neg h3, if_neg h4', hjn, List.getElem?_eq_getElem hjt, h4, Msg.agg, runBox, hseq, hlen, hw1, hw2, hp1, hp2, hwh, heq, arith, iop, b1, b2, b3, decide_false]
          rfl

/-- The counts of a box behind these verdicts. -/
def cnts (hist : List Nat) : List Value := [.int .i64 (hist.count 0), .int .i64 (hist.count 1), .int .i64 (hist.count 2), .int .i64 (hist.count 3), .int .i64 (hist.count 4), .int .i64 (hist.count 5)]

/-- A box that took these messages, with these verdicts told so far. -/
def BoxAt (m : Mem) (p : Value) (B : List Nat) (taken : List Msg) (hist : List Nat) : Prop :=
  ∃ bx sv, p = .pointer (some ⟨bx, 0, none⟩) ∧ B = bx :: blkOf sv ∧ bx < m.next ∧ bx ∉ blkOf sv ∧ m.get bx = some ⟨.cells (sv :: cnts hist) 75, false, none⟩ ∧ TOwn encMsg 32 m sv taken

theorem BoxAt.lt {m : Mem} {p : Value} {B : List Nat} {taken : List Msg} {hist : List Nat} (h : BoxAt m p B taken hist) : ∀ b ∈ B, b < m.next := by
  obtain ⟨bx, sv, rfl, rfl, h1, h2, h3, h4⟩ := h
  intro b hb
  rcases List.mem_cons.1 hb with rfl | hb
  · exact h1
  · exact h4.lt b hb

theorem BoxAt.upd {fp : List Nat} {m m' : Mem} {p : Value} {B : List Nat} {taken : List Msg} {hist : List Nat} (h : BoxAt m p B taken hist) (hu : Upd fp m m') (hd : ∀ b ∈ B, b ∉ fp) : BoxAt m' p B taken hist := by
  obtain ⟨bx, sv, rfl, rfl, h1, h2, h3, h4⟩ := h
  exact ⟨bx, sv, rfl, rfl, Nat.lt_of_lt_of_le h1 hu.next, h2, by rw [hu.same bx h1 (hd bx (by simp))]; exact h3, h4.upd hu (fun b hb => hd b (by simp [hb]))⟩

theorem new_ok (m : Mem) : ∃ p m', Call S tab 14 [] m = some (p, m') ∧ BoxAt m' p [m.next] [] [] ∧ Upd [] m m' := by
  refine ⟨.pointer (some ⟨m.next, 0, none⟩), m.add ⟨.cells (.slice none 0 0 :: cnts []) 75, false, none⟩, ?_, ⟨m.next, .slice none 0 0, rfl, rfl, by simp, by simp [blkOf], Mem.get_add_self .., TOwn.nil _ _⟩, Upd.add _ _ _⟩
  rw [eq14]
  simp -implicitDefEqProofs only [fn14, X_seq, X_region, X_cond, X_block, Exec_ret, Exec_skip, Exec_exit, X_cons, X_nil, opsK_some, guardK_true, guardK_false, wanted_none, wanted_some, stepOp, AOp.run, aval, avals, avalO, aparts, plain, putT, runBox, runBuildSlice, List.length_cons, List.length_nil, List.cons_append, List.nil_append, List.replicate_succ, List.replicate_zero, List.length_replicate, Nat.reduceAdd, Nat.reduceSub, Nat.reduceMul, Nat.reduceLT, Nat.reduceLeDiff, Nat.reduceEqDiff, if_true, if_false, reduceIte, Bool.false_eq_true, Bool.true_eq_false, Option.bind_some, Option.map_some, Option.getD_some, List.set_cons_succ, List.set_cons_zero, List.getElem?_cons_succ, List.getElem?_cons_zero, List.length_set, runEqNil, nilKind, bothNil, thenC_normal, thenC_ret, thenC_exit, condK_true, condK_false, mapN_some, mapB_normal, mapB_ret, mapB_exit, leave_ret, leave_normal, resVs, resV, oneOf, Option.isNone_none, Option.isNone_some, runNilck, runFieldAddr, asPtr, runUn, asB, capsOf, Bool.not_true, Bool.not_false, beq_self_eq_true, b_tf, b_ft, cells_agg, cells_int, cells_bool, cells_str, cells_ptr, cells_slice, cells_map, Nat.zero_add, Nat.add_zero, and_self, and_true, true_and, afill]
  rfl

theorem verdict_ok {m : Mem} {p : Value} {B : List Nat} {taken : List Msg} {hist : List Nat} (a : Msg) (h : BoxAt m p B taken hist) (hn : taken.length ≤ 2 ^ 40) :
    Call S tab 39 [p, a.agg] m = some (.int .i64 (verd taken a), (runBox 32 a.agg m).2) := by
  have hg : (m.add ⟨.cells (encMsg.cells a) 32, false, none⟩).get m.next = some ⟨.cells (encMsg.cells a) 32, false, none⟩ := Mem.get_add_self ..
  have hseq := load_at (o := 0) hg (v := .int .i64 a.seq) rfl
  have hwh := load_whole (n := 6) hg rfl
  have hm : Upd [] m (m.add ⟨.cells (encMsg.cells a) 32, false, none⟩) := Upd.add _ _ _
  have h' := h.upd hm (fun b hb' => by simp)
  obtain ⟨bx, sv, rfl, rfl, q1, q2, q3, q4⟩ := h'
  have hlen := q4.tsl.len
  have hsv := load_at (o := 0) q3 (v := sv) rfl
  have hw1 : IntKind.i64.wrap ((taken.length : Int) + 1) = (taken.length : Int) + 1 := wrap_in (by omega) (by omega)
  rw [eq39]
  by_cases h1 : a.seq < 1
  · simp -implicitDefEqProofs only [fn39, X_seq, X_region, X_cond, X_block, Exec_ret, Exec_skip, Exec_exit, X_cons, X_nil, opsK_some, guardK_true, guardK_false, wanted_none, wanted_some, stepOp, AOp.run, aval, avals, avalO, aparts, plain, putT, runBox, runBuildSlice, List.length_cons, List.length_nil, List.cons_append, List.nil_append, List.replicate_succ, List.replicate_zero, List.length_replicate, Nat.reduceAdd, Nat.reduceSub, Nat.reduceMul, Nat.reduceLT, Nat.reduceLeDiff, Nat.reduceEqDiff, if_true, if_false, reduceIte, Bool.false_eq_true, Bool.true_eq_false, Option.bind_some, Option.map_some, Option.getD_some, List.set_cons_succ, List.set_cons_zero, List.getElem?_cons_succ, List.getElem?_cons_zero, List.length_set, runEqNil, nilKind, bothNil, thenC_normal, thenC_ret, thenC_exit, condK_true, condK_false, mapN_some, mapB_normal, mapB_ret, mapB_exit, leave_ret, leave_normal, resVs, resV, oneOf, Option.isNone_none, Option.isNone_some, runNilck, runFieldAddr, asPtr, runUn, asB, capsOf, Bool.not_true, Bool.not_false, beq_self_eq_true, b_tf, b_ft, cells_agg, cells_int, cells_bool, cells_str, cells_ptr, cells_slice, cells_map, Nat.zero_add, Nat.add_zero, and_self, and_true, true_and, verd, if_pos h1, Msg.agg, runBox, hsv, hlen, hseq, arith, iop, h1, decide_true]
    rfl
  · have b1 : decide (a.seq < 1) = false := by simpa using h1
    by_cases h2 : a.seq > (taken.length : Int) + 1
    · simp -implicitDefEqProofs only [fn39, X_seq, X_region, X_cond, X_block, Exec_ret, Exec_skip, Exec_exit, X_cons, X_nil, opsK_some, guardK_true, guardK_false, wanted_none, wanted_some, stepOp, AOp.run, aval, avals, avalO, aparts, plain, putT, runBox, runBuildSlice, List.length_cons, List.length_nil, List.cons_append, List.nil_append, List.replicate_succ, List.replicate_zero, List.length_replicate, Nat.reduceAdd, Nat.reduceSub, Nat.reduceMul, Nat.reduceLT, Nat.reduceLeDiff, Nat.reduceEqDiff, if_true, if_false, reduceIte, Bool.false_eq_true, Bool.true_eq_false, Option.bind_some, Option.map_some, Option.getD_some, List.set_cons_succ, List.set_cons_zero, List.getElem?_cons_succ, List.getElem?_cons_zero, List.length_set, runEqNil, nilKind, bothNil, thenC_normal, thenC_ret, thenC_exit, condK_true, condK_false, mapN_some, mapB_normal, mapB_ret, mapB_exit, leave_ret, leave_normal, resVs, resV, oneOf, Option.isNone_none, Option.isNone_some, runNilck, runFieldAddr, asPtr, runUn, asB, capsOf, Bool.not_true, Bool.not_false, beq_self_eq_true, b_tf, b_ft, cells_agg, cells_int, cells_bool, cells_str, cells_ptr, cells_slice, cells_map, Nat.zero_add, Nat.add_zero, and_self, and_true, true_and, verd, if_neg h1, if_pos h2, Msg.agg, runBox, hsv, hseq, hlen, hw1, arith, iop, b1, h2, decide_true]
      rfl
    · have b2 : decide (a.seq > (taken.length : Int) + 1) = false := by simpa using h2
      by_cases h3 : a.seq = (taken.length : Int) + 1
      · have b3 : (a.seq == (taken.length : Int) + 1) = true := by simpa using h3
        simp -implicitDefEqProofs only [fn39, X_seq, X_region, X_cond, X_block, Exec_ret, Exec_skip, Exec_exit, X_cons, X_nil, opsK_some, guardK_true, guardK_false, wanted_none, wanted_some, stepOp, AOp.run, aval, avals, avalO, aparts, plain, putT, runBox, runBuildSlice, List.length_cons, List.length_nil, List.cons_append, List.nil_append, List.replicate_succ, List.replicate_zero, List.length_replicate, Nat.reduceAdd, Nat.reduceSub, Nat.reduceMul, Nat.reduceLT, Nat.reduceLeDiff, Nat.reduceEqDiff, if_true, if_false, reduceIte, Bool.false_eq_true, Bool.true_eq_false, Option.bind_some, Option.map_some, Option.getD_some, List.set_cons_succ, List.set_cons_zero, List.getElem?_cons_succ, List.getElem?_cons_zero, List.length_set, runEqNil, nilKind, bothNil, thenC_normal, thenC_ret, thenC_exit, condK_true, condK_false, mapN_some, mapB_normal, mapB_ret, mapB_exit, leave_ret, leave_normal, resVs, resV, oneOf, Option.isNone_none, Option.isNone_some, runNilck, runFieldAddr, asPtr, runUn, asB, capsOf, Bool.not_true, Bool.not_false, beq_self_eq_true, b_tf, b_ft, cells_agg, cells_int, cells_bool, cells_str, cells_ptr, cells_slice, cells_map, Nat.zero_add, Nat.add_zero, and_self, and_true, true_and, verd, if_neg h1, if_neg h2, if_pos h3, Msg.agg, runBox, hsv, hseq, hlen, hw1, arith, iop, b1, b2, b3]
        rfl
      · have b3 : (a.seq == (taken.length : Int) + 1) = false := by simpa using h3
        obtain ⟨j, hj, hjt⟩ : ∃ j : Nat, a.seq - 1 = j ∧ j < taken.length := ⟨(a.seq - 1).toNat, by omega, by omega⟩
        have hjn : (a.seq - 1).toNat = j := by omega
        have hw2 : IntKind.i64.wrap (a.seq - 1) = (j : Int) := by rw [hj]; exact wrap_in (by omega) (by omega)
        obtain ⟨q, hp1, hp2, _⟩ := q4.tsl.index .i64 (List.getElem?_eq_getElem hjt)
        rw [esize] at hp1 hp2
        have heq := eq_msg false taken[j] a
        simp only [Msg.agg, dMsg] at heq
        by_cases h4 : taken[j] = a
        · rw [h4] at hp2 heq
          simp -implicitDefEqProofs only [fn39, X_seq, X_region, X_cond, X_block, Exec_ret, Exec_skip, Exec_exit, X_cons, X_nil, opsK_some, guardK_true, guardK_false, wanted_none, wanted_some, stepOp, AOp.run, aval, avals, avalO, aparts, plain, putT, runBox, runBuildSlice, List.length_cons, List.length_nil, List.cons_append, List.nil_append, List.replicate_succ, List.replicate_zero, List.length_replicate, Nat.reduceAdd, Nat.reduceSub, Nat.reduceMul, Nat.reduceLT, Nat.reduceLeDiff, Nat.reduceEqDiff, if_true, if_false, reduceIte, Bool.false_eq_true, Bool.true_eq_false, Option.bind_some, Option.map_some, Option.getD_some, List.set_cons_succ, List.set_cons_zero, List.getElem?_cons_succ, List.getElem?_cons_zero, List.length_set, runEqNil, nilKind, bothNil, thenC_normal, thenC_ret, thenC_exit, condK_true, condK_false, mapN_some, mapB_normal, mapB_ret, mapB_exit, leave_ret, leave_normal, resVs, resV, oneOf, Option.isNone_none, Option.isNone_some, runNilck, runFieldAddr, asPtr, runUn, asB, capsOf, Bool.not_true, Bool.not_false, beq_self_eq_true, b_tf, b_ft, cells_agg, cells_int, cells_bool, cells_str, cells_ptr, cells_slice, cells_map, Nat.zero_add, Nat.add_zero, and_self, and_true, true_and, verd, if_neg h1, if_neg h2, if_neg h3, hjn, List.getElem?_eq_getElem hjt, h4, Msg.agg, runBox, hsv, hseq, hlen, hw1, hw2, hp1, hp2, hwh, heq, arith, iop, b1, b2, b3, decide_true]
          rfl
        · have h4' : ¬ (some taken[j] = some a) := by simpa using h4
          simp -implicitDefEqProofs only [fn39, X_seq, X_region, X_cond, X_block, Exec_ret, Exec_skip, Exec_exit, X_cons, X_nil, opsK_some, guardK_true, guardK_false, wanted_none, wanted_some, stepOp, AOp.run, aval, avals, avalO, aparts, plain, putT, runBox, runBuildSlice, List.length_cons, List.length_nil, List.cons_append, List.nil_append, List.replicate_succ, List.replicate_zero, List.length_replicate, Nat.reduceAdd, Nat.reduceSub, Nat.reduceMul, Nat.reduceLT, Nat.reduceLeDiff, Nat.reduceEqDiff, if_true, if_false, reduceIte, Bool.false_eq_true, Bool.true_eq_false, Option.bind_some, Option.map_some, Option.getD_some, List.set_cons_succ, List.set_cons_zero, List.getElem?_cons_succ, List.getElem?_cons_zero, List.length_set, runEqNil, nilKind, bothNil, thenC_normal, thenC_ret, thenC_exit, condK_true, condK_false, mapN_some, mapB_normal, mapB_ret, mapB_exit, leave_ret, leave_normal, resVs, resV, oneOf, Option.isNone_none, Option.isNone_some, runNilck, runFieldAddr, asPtr, runUn, asB, capsOf, Bool.not_true, Bool.not_false, beq_self_eq_true, b_tf, b_ft, cells_agg, cells_int, cells_bool, cells_str, cells_ptr, cells_slice, cells_map, Nat.zero_add, Nat.add_zero, and_self, and_true, true_and, verd, if_neg h1, if_neg h2, if_neg h3, if_neg h4', hjn, List.getElem?_eq_getElem hjt, h4, Msg.agg, runBox, hsv, hseq, hlen, hw1, hw2, hp1, hp2, hwh, heq, arith, iop, b1, b2, b3, decide_false]
          rfl

end Go.Fx.Try
