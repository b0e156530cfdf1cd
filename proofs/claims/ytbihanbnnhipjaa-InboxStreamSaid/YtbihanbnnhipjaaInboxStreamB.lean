/- The law InboxStream on the abstract machine. -/
import Derived.Test.YtbihanbnnhipjaaInboxStreamA
namespace Go.Fx.Try
open Go Go.Fx
set_option linter.unusedSimpArgs false
set_option linter.unusedVariables false

structure Val where
  kind : Int
  n : Int
  s : ByteArray
def encVal : Enc Val := ⟨3, fun a => [.int .i64 a.kind, .int .i64 a.n, .string a.s], fun _ => rfl, fun _ => rfl⟩
def encPair : Enc (Int × Int) := ⟨2, fun a => [.int .i64 a.1, .int .i64 a.2], fun _ => rfl, fun _ => rfl⟩
theorem vsize : encVal.size = 3 := rfl
theorem psize : encPair.size = 2 := rfl

theorem num_snoc {S : List Msg} {a : Msg} (h : Num S) (ha : a.seq = (S.length : Int) + 1) : Num (S ++ [a]) := by
  intro i b hb
  rcases Nat.lt_trichotomy i S.length with hi | rfl | hi
  · rw [List.getElem?_append_left hi] at hb; exact h i b hb
  · rw [List.getElem?_append_right (Nat.le_refl _), Nat.sub_self] at hb
    simp at hb; subst hb; exact ha
  · rw [List.getElem?_eq_none (by simp; omega)] at hb; cases hb

/-- The loop that makes the stream. -/
structure StR (l : Value) (L : List Val) (lots : Value) (i : Nat) (ts : List Value) (m : Mem) (sv : Value) (S : List Msg) : Prop where
  len : ts.length = 115
  t0 : ts[0]? = some l
  t1 : ts[1]? = some lots
  t5 : ts[5]? = some sv
  t6 : ts[6]? = some (.int .i64 i)
  own : TOwn encMsg 32 m sv S
  sl : TSl encVal m l L
  slt : ∀ b ∈ blkOf l, b < m.next ∧ b ∉ blkOf sv
  sn : S.length = i
  num : Num S

theorem make_loop (l : Value) (L : List Val) (lots : Value) (n : Nat) (hn : n = min L.length 100) : ∀ (d i : Nat) (ts : List Value) (m : Mem) (sv : Value) (S : List Msg), i + d = n → StR l L lots i ts m sv S →
    ∃ ts' m' sv' S', Exec Go.Fx.Try.S tab (.loop fn5_l0) ts m = some (.exit 0, ts', m') ∧ StR l L lots n ts' m' sv' S' ∧ Upd (blkOf sv) m m' ∧ ∀ b ∈ blkOf sv', b ∈ blkOf sv ∨ m.next ≤ b := by
  intro d
  induction d with
  | zero =>
    intro i ts m sv S hi R
    obtain rfl : i = n := by omega
    have hend : ∃ ts', Exec Go.Fx.Try.S tab (.loop fn5_l0) ts m = some (.exit 0, ts', m) ∧ StR l L lots i ts' m sv S := by
      by_cases h1 : i < L.length
      · have b1 : decide ((i : Int) < (L.length : Int)) = true := by simp; omega
        have b2 : decide ((i : Int) < 100) = false := by simp; omega
        obtain ⟨E, hE⟩ : ∃ E, Exec Go.Fx.Try.S tab (.loop fn5_l0) ts m = E := ⟨_, rfl⟩
        have hE2 := hE
        rw [X_loop] at hE2
        simp -implicitDefEqProofs only [fn5_l0, X_seq, X_region, X_cond, X_block, Exec_ret, Exec_skip, Exec_exit, X_cons, X_nil, opsK_some, guardK_true, guardK_false, wanted_none, wanted_some, stepOp, AOp.run, aval, avals, avalO, aparts, plain, putT, runBox, runBuildSlice, List.length_cons, List.length_nil, List.cons_append, List.nil_append, List.replicate_succ, List.replicate_zero, List.length_replicate, Nat.reduceAdd, Nat.reduceSub, Nat.reduceMul, Nat.reduceLT, Nat.reduceLeDiff, Nat.reduceEqDiff, if_true, if_false, reduceIte, Bool.false_eq_true, Bool.true_eq_false, Option.bind_some, Option.map_some, Option.getD_some, List.set_cons_succ, List.set_cons_zero, List.getElem?_cons_succ, List.getElem?_cons_zero, List.length_set, List.getElem?_toArray, runEqNil, nilKind, bothNil, thenC_normal, thenC_ret, thenC_exit, condK_true, condK_false, mapN_some, mapB_normal, mapB_ret, mapB_exit, leave_ret, leave_normal, resVs, resV, oneOf, Option.isNone_none, Option.isNone_some, runNilck, runFieldAddr, asPtr, runUn, asB, capsOf, Bool.not_true, Bool.not_false, beq_self_eq_true, b_tf, b_ft, cells_agg, cells_int, cells_bool, cells_str, cells_ptr, cells_slice, cells_map, Nat.zero_add, Nat.add_zero, and_self, and_true, true_and, List.getElem?_set, R.len, R.t0, R.t6, R.sl.len, arith, iop, b1, b2] at hE2
        refine ⟨_, hE.trans hE2.symm, { own := R.own, sl := R.sl, slt := R.slt, sn := R.sn, num := R.num, len := ?_, t0 := ?_, t1 := ?_, t5 := ?_, t6 := ?_ }⟩ <;>
          simp -implicitDefEqProofs only [X_seq, X_region, X_cond, X_block, Exec_ret, Exec_skip, Exec_exit, X_cons, X_nil, opsK_some, guardK_true, guardK_false, wanted_none, wanted_some, stepOp, AOp.run, aval, avals, avalO, aparts, plain, putT, runBox, runBuildSlice, List.length_cons, List.length_nil, List.cons_append, List.nil_append, List.replicate_succ, List.replicate_zero, List.length_replicate, Nat.reduceAdd, Nat.reduceSub, Nat.reduceMul, Nat.reduceLT, Nat.reduceLeDiff, Nat.reduceEqDiff, if_true, if_false, reduceIte, Bool.false_eq_true, Bool.true_eq_false, Option.bind_some, Option.map_some, Option.getD_some, List.set_cons_succ, List.set_cons_zero, List.getElem?_cons_succ, List.getElem?_cons_zero, List.length_set, List.getElem?_toArray, runEqNil, nilKind, bothNil, thenC_normal, thenC_ret, thenC_exit, condK_true, condK_false, mapN_some, mapB_normal, mapB_ret, mapB_exit, leave_ret, leave_normal, resVs, resV, oneOf, Option.isNone_none, Option.isNone_some, runNilck, runFieldAddr, asPtr, runUn, asB, capsOf, Bool.not_true, Bool.not_false, beq_self_eq_true, b_tf, b_ft, cells_agg, cells_int, cells_bool, cells_str, cells_ptr, cells_slice, cells_map, Nat.zero_add, Nat.add_zero, and_self, and_true, true_and, List.getElem?_set, R.len, R.t0, R.t1, R.t5, R.t6]
      · have b1 : decide ((i : Int) < (L.length : Int)) = false := by simp; omega
        obtain ⟨E, hE⟩ : ∃ E, Exec Go.Fx.Try.S tab (.loop fn5_l0) ts m = E := ⟨_, rfl⟩
        have hE2 := hE
        rw [X_loop] at hE2
        simp -implicitDefEqProofs only [fn5_l0, X_seq, X_region, X_cond, X_block, Exec_ret, Exec_skip, Exec_exit, X_cons, X_nil, opsK_some, guardK_true, guardK_false, wanted_none, wanted_some, stepOp, AOp.run, aval, avals, avalO, aparts, plain, putT, runBox, runBuildSlice, List.length_cons, List.length_nil, List.cons_append, List.nil_append, List.replicate_succ, List.replicate_zero, List.length_replicate, Nat.reduceAdd, Nat.reduceSub, Nat.reduceMul, Nat.reduceLT, Nat.reduceLeDiff, Nat.reduceEqDiff, if_true, if_false, reduceIte, Bool.false_eq_true, Bool.true_eq_false, Option.bind_some, Option.map_some, Option.getD_some, List.set_cons_succ, List.set_cons_zero, List.getElem?_cons_succ, List.getElem?_cons_zero, List.length_set, List.getElem?_toArray, runEqNil, nilKind, bothNil, thenC_normal, thenC_ret, thenC_exit, condK_true, condK_false, mapN_some, mapB_normal, mapB_ret, mapB_exit, leave_ret, leave_normal, resVs, resV, oneOf, Option.isNone_none, Option.isNone_some, runNilck, runFieldAddr, asPtr, runUn, asB, capsOf, Bool.not_true, Bool.not_false, beq_self_eq_true, b_tf, b_ft, cells_agg, cells_int, cells_bool, cells_str, cells_ptr, cells_slice, cells_map, Nat.zero_add, Nat.add_zero, and_self, and_true, true_and, List.getElem?_set, R.len, R.t0, R.t6, R.sl.len, arith, iop, b1] at hE2
        refine ⟨_, hE.trans hE2.symm, { own := R.own, sl := R.sl, slt := R.slt, sn := R.sn, num := R.num, len := ?_, t0 := ?_, t1 := ?_, t5 := ?_, t6 := ?_ }⟩ <;>
          simp -implicitDefEqProofs only [X_seq, X_region, X_cond, X_block, Exec_ret, Exec_skip, Exec_exit, X_cons, X_nil, opsK_some, guardK_true, guardK_false, wanted_none, wanted_some, stepOp, AOp.run, aval, avals, avalO, aparts, plain, putT, runBox, runBuildSlice, List.length_cons, List.length_nil, List.cons_append, List.nil_append, List.replicate_succ, List.replicate_zero, List.length_replicate, Nat.reduceAdd, Nat.reduceSub, Nat.reduceMul, Nat.reduceLT, Nat.reduceLeDiff, Nat.reduceEqDiff, if_true, if_false, reduceIte, Bool.false_eq_true, Bool.true_eq_false, Option.bind_some, Option.map_some, Option.getD_some, List.set_cons_succ, List.set_cons_zero, List.getElem?_cons_succ, List.getElem?_cons_zero, List.length_set, List.getElem?_toArray, runEqNil, nilKind, bothNil, thenC_normal, thenC_ret, thenC_exit, condK_true, condK_false, mapN_some, mapB_normal, mapB_ret, mapB_exit, leave_ret, leave_normal, resVs, resV, oneOf, Option.isNone_none, Option.isNone_some, runNilck, runFieldAddr, asPtr, runUn, asB, capsOf, Bool.not_true, Bool.not_false, beq_self_eq_true, b_tf, b_ft, cells_agg, cells_int, cells_bool, cells_str, cells_ptr, cells_slice, cells_map, Nat.zero_add, Nat.add_zero, and_self, and_true, true_and, List.getElem?_set, R.len, R.t0, R.t1, R.t5, R.t6]
    obtain ⟨ts', h1, h2⟩ := hend
    exact ⟨ts', m, sv, S, h1, h2, Upd.refl _ _, fun b hb => .inl hb⟩
  | succ d ih =>
    intro i ts m sv S hi R
    have hin : i < L.length := by omega
    have b1 : decide ((i : Int) < (L.length : Int)) = true := by simp; omega
    have b2 : decide ((i : Int) < 100) = true := by simp; omega
    obtain ⟨qb, qo, hq1, hq2⟩ := R.sl.at .i64 (List.getElem?_eq_getElem hin)
    rw [vsize] at hq1 hq2
    have hwr := wrap_succ (i := i) (n := 100) (by omega) (by omega)
    have ld0 := (hq2 m R.sl).1
    generalize L[i] = v at *
    have hfB : afill [.int .i64 0, .int .i64 0, .int .i64 0, .int .i64 0, .int .i64 0, .string ⟨#[]⟩] [(0, 1, .int .i64 ((i + 1 : Nat) : Int)), (3, 3, .agg (encVal.cells v).toArray)] = some (encMsg.cells ⟨((i + 1 : Nat) : Int), 0, 0, v.kind, v.n, v.s⟩) := rfl
    generalize ha : (⟨((i + 1 : Nat) : Int), 0, 0, v.kind, v.n, v.s⟩ : Msg) = a at hfB
    have haseq : a.seq = ((i + 1 : Nat) : Int) := by rw [← ha]
    have hfill : afill [.int .i64 0, .int .i64 0, .int .i64 0, .int .i64 0, .int .i64 0, .string ⟨#[]⟩] [(0, 6, a.agg)] = some (encMsg.cells a) := afill_one rfl rfl
    simp only [Msg.agg] at hfill
    have hu1 : Upd [] m (m.add ⟨.cells (encMsg.cells a) 32, false, none⟩) := Upd.add _ _ _
    have own1 := R.own.upd hu1 (fun b _ hb => by simp at hb)
    have sl1 := R.sl.upd hu1 (fun b hb => ⟨(R.slt b hb).1, by simp⟩)
    have hg1 : (m.add ⟨.cells (encMsg.cells a) 32, false, none⟩).get m.next = some ⟨.cells (encMsg.cells a) 32, false, none⟩ := Mem.get_add_self ..
    have hn1 : (m.add ⟨.cells (encMsg.cells a) 32, false, none⟩).next = m.next + 1 := rfl
    generalize hm1 : m.add ⟨.cells (encMsg.cells a) 32, false, none⟩ = m1 at *
    obtain ⟨sv', m2, ha1, ha2, ha3, ha4, ha5⟩ := own1.append (k := [a]) (eb := 56) (by simp) (by have := R.sn; simp; omega) (by have := R.sn; simp; omega)
    simp only [List.length_cons, List.length_nil, Nat.zero_add, encMsg.flat_one, esize] at ha1
    have hsrc : runSrc 6 (.slice (some ⟨m.next, 0, none⟩) 1 1) m1 = some (1, encMsg.cells a) := by simp [runSrc, cellsAt_of_get hg1, encMsg.len a, esize, List.take_of_length_le]
    have sl2 := sl1.upd ha3 (fun b hb => ⟨by have := (R.slt b hb).1; omega, (R.slt b hb).2⟩)
    have num2 := num_snoc R.num (a := a) (by rw [haseq, R.sn]; omega)
    have hround : ∃ ts', Exec Go.Fx.Try.S tab fn5_l0 ts m = some (.normal, ts', m2) ∧ StR l L lots (i + 1) ts' m2 sv' (S ++ [a]) := by
      obtain ⟨E, hE⟩ : ∃ E, Exec Go.Fx.Try.S tab fn5_l0 ts m = E := ⟨_, rfl⟩
      have hE2 := hE
      simp -implicitDefEqProofs only [fn5_l0, X_seq, X_region, X_cond, X_block, Exec_ret, Exec_skip, Exec_exit, X_cons, X_nil, opsK_some, guardK_true, guardK_false, wanted_none, wanted_some, stepOp, AOp.run, aval, avals, avalO, aparts, plain, putT, runBox, runBuildSlice, List.length_cons, List.length_nil, List.cons_append, List.nil_append, List.replicate_succ, List.replicate_zero, List.length_replicate, Nat.reduceAdd, Nat.reduceSub, Nat.reduceMul, Nat.reduceLT, Nat.reduceLeDiff, Nat.reduceEqDiff, if_true, if_false, reduceIte, Bool.false_eq_true, Bool.true_eq_false, Option.bind_some, Option.map_some, Option.getD_some, List.set_cons_succ, List.set_cons_zero, List.getElem?_cons_succ, List.getElem?_cons_zero, List.length_set, List.getElem?_toArray, runEqNil, nilKind, bothNil, thenC_normal, thenC_ret, thenC_exit, condK_true, condK_false, mapN_some, mapB_normal, mapB_ret, mapB_exit, leave_ret, leave_normal, resVs, resV, oneOf, Option.isNone_none, Option.isNone_some, runNilck, runFieldAddr, asPtr, runUn, asB, capsOf, Bool.not_true, Bool.not_false, beq_self_eq_true, b_tf, b_ft, cells_agg, cells_int, cells_bool, cells_str, cells_ptr, cells_slice, cells_map, Nat.zero_add, Nat.add_zero, and_self, and_true, true_and, List.getElem?_set, R.len, R.t0, R.t5, R.t6, R.sl.len, arith, iop, b1, b2, hwr, hq1, ld0, hfB, hfill, hm1, hsrc, ha1] at hE2
      refine ⟨_, hE.trans hE2.symm, { own := ha2, sl := sl2, slt := fun b hb => ⟨by have := (R.slt b hb).1; omega, fun hb' => (by rw [ha5] at hb'; simp at hb'; have := (R.slt b hb).1; omega)⟩, sn := by simp [R.sn], num := num2, len := ?_, t0 := ?_, t1 := ?_, t5 := ?_, t6 := ?_ }⟩ <;>
        simp -implicitDefEqProofs only [X_seq, X_region, X_cond, X_block, Exec_ret, Exec_skip, Exec_exit, X_cons, X_nil, opsK_some, guardK_true, guardK_false, wanted_none, wanted_some, stepOp, AOp.run, aval, avals, avalO, aparts, plain, putT, runBox, runBuildSlice, List.length_cons, List.length_nil, List.cons_append, List.nil_append, List.replicate_succ, List.replicate_zero, List.length_replicate, Nat.reduceAdd, Nat.reduceSub, Nat.reduceMul, Nat.reduceLT, Nat.reduceLeDiff, Nat.reduceEqDiff, if_true, if_false, reduceIte, Bool.false_eq_true, Bool.true_eq_false, Option.bind_some, Option.map_some, Option.getD_some, List.set_cons_succ, List.set_cons_zero, List.getElem?_cons_succ, List.getElem?_cons_zero, List.length_set, List.getElem?_toArray, runEqNil, nilKind, bothNil, thenC_normal, thenC_ret, thenC_exit, condK_true, condK_false, mapN_some, mapB_normal, mapB_ret, mapB_exit, leave_ret, leave_normal, resVs, resV, oneOf, Option.isNone_none, Option.isNone_some, runNilck, runFieldAddr, asPtr, runUn, asB, capsOf, Bool.not_true, Bool.not_false, beq_self_eq_true, b_tf, b_ft, cells_agg, cells_int, cells_bool, cells_str, cells_ptr, cells_slice, cells_map, Nat.zero_add, Nat.add_zero, and_self, and_true, true_and, List.getElem?_set, R.len, R.t0, R.t1, R.t5, R.t6]
    obtain ⟨ts', hr1, hr2⟩ := hround
    obtain ⟨ts'', m'', sv'', S'', g1, g2, g3, g4⟩ := ih (i + 1) ts' m2 sv' _ (by omega) hr2
    refine ⟨ts'', m'', sv'', S'', by rw [X_loop, hr1, thenC_normal]; exact g1, g2, ?_, ?_⟩
    · have h2 : Upd (blkOf sv) m m2 := (hu1.mono (fun b hb => by simp at hb)).trans ha3
      exact h2.trans_new g3 (fun b hb => by rw [ha5] at hb; simp at hb; exact .inr (by omega))
    · intro b hb
      rcases g4 b hb with h | h
      · rw [ha5] at h; simp at h; exact .inr (by omega)
      · exact .inr (by omega)

/-- A part of a slice of one's own. -/
theorem TOwn.cut {α : Type} {E : Enc α} {e : TypeId} {m : Mem} {v : Value} {l : List α} (h : TOwn E e m v l) {j k : Nat} (hjk : j ≤ k) (hk : k ≤ l.length) :
    ∃ v', runSliceS E.size v (some (.int .i64 j)) (some (.int .i64 k)) m = some v' ∧ TSl E m v' ((l.drop j).take (k - j)) ∧ ∀ b ∈ blkOf v', b ∈ blkOf v := by
  obtain ⟨h1, ⟨rfl, h0⟩ | ⟨b, rfl, hb, hg⟩⟩ := h
  · have : l = [] := by simpa using h0
    subst this
    obtain rfl : k = 0 := by simpa using hk
    obtain rfl : j = 0 := by omega
    exact ⟨.slice none 0 0, by simp [runSliceS, boundsV, boundV], TSl.nil m, fun b hb => hb⟩
  · have hbd : boundsV l.length l.length (some (.int .i64 (j : Int))) (some (.int .i64 (k : Int))) = some (j, k) := by
      have h2 : (0 : Int) ≤ (k : Int) ∧ (k : Int) ≤ (l.length : Int) := by omega
      have h3 : (0 : Int) ≤ (j : Int) ∧ (j : Int) ≤ (k : Int) := by omega
      simp only [boundsV, boundV, Int.toNat_natCast, if_pos h2, Option.bind_some, if_pos h3, Option.map_some]
    have hkn : m.known b = .loose E.size := by simp [Mem.known, hg]
    refine ⟨_, by simp only [runSliceS, hbd, Option.bind_some, hkn, or_true, if_true]; rfl, ⟨E.flat_len _, .inr ⟨b, if l.length = j then 0 else 0 + j * E.size, l.length - j, ?_, ?_, ?_⟩⟩, fun c hc => by simpa [blkOf] using hc⟩
    · simp only [List.length_take, List.length_drop]
      rw [Nat.min_eq_left (by omega)]
    · simp only [List.length_take, List.length_drop]; omega
    · by_cases hz : k - j = 0
      · left; rw [hz]; simp
      · right
        have hne : ¬ l.length = j := by omega
        have hlen : ((l.drop j).take (k - j)).length = k - j := by simp only [List.length_take, List.length_drop]; omega
        rw [if_neg hne, hlen, Nat.zero_add]
        refine ⟨E.flat l, cellsAt_of_get hg, ?_, ?_⟩
        · rw [← Nat.add_mul, E.flat_len]; exact Nat.mul_le_mul_right _ (by omega)
        · rw [E.flat_drop, E.flat_take]

end Go.Fx.Try
