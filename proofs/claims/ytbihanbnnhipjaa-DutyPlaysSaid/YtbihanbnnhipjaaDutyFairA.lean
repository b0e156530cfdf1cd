/- The law DutyFair on the abstract machine. -/
import Derived.Test.YtbihanbnnhipjaaDutyTurnsA
namespace Go.Fx.Try
open Go Go.Fx
set_option linter.unusedSimpArgs false
set_option linter.unusedVariables false

structure FjR (ids fits q : Value) (id : Int) (L : List Int) (i : Nat) (ts : List Value) (m : Mem) (B : List Nat) (l : List Int) (m0 : Mem) : Prop where
  len : ts.length = 79
  t0 : ts[0]? = some ids
  t1 : ts[1]? = some fits
  t2 : ts[2]? = some (.int .i64 id)
  t7 : ts[7]? = some q
  t8 : ts[8]? = some (.int .i64 i)
  box : QAt m q B l
  nd : l.Nodup
  ll : l.length ≤ i
  sl : TSl encI m ids L
  slt : ∀ b ∈ blkOf ids, b < m.next ∧ b ∉ B
  up : Upd [] m0 m
  new : ∀ b ∈ B, m0.next ≤ b

theorem fj_loop (ids fits q : Value) (id : Int) (L : List Int) (m0 : Mem) (n : Nat) (hn : n = min L.length 50) : ∀ (d i : Nat) (ts : List Value) (m : Mem) (B : List Nat) (l : List Int), i + d = n → FjR ids fits q id L i ts m B l m0 →
    ∃ ts' m' B' l', Exec S tab (.loop fn8_l0) ts m = some (.exit 0, ts', m') ∧ FjR ids fits q id L n ts' m' B' l' m0 := by
  intro d
  induction d with
  | zero =>
    intro i ts m B l hi R
    obtain rfl : i = n := by omega
    have hend : ∃ ts', Exec S tab (.loop fn8_l0) ts m = some (.exit 0, ts', m) ∧ FjR ids fits q id L i ts' m B l m0 := by
      by_cases h1 : i < L.length
      · have b1 : decide ((i : Int) < (L.length : Int)) = true := by simp; omega
        have b2 : decide ((i : Int) < 50) = false := by simp; omega
        obtain ⟨E, hE⟩ : ∃ E, Exec S tab (.loop fn8_l0) ts m = E := ⟨_, rfl⟩
        have hE2 := hE
        rw [X_loop] at hE2
        simp -implicitDefEqProofs only [fn8_l0, X_seq, X_region, X_cond, X_block, Exec_ret, Exec_skip, Exec_exit, X_cons, X_nil, opsK_some, guardK_true, guardK_false, wanted_none, wanted_some, stepOp, AOp.run, aval, avals, avalO, aparts, plain, putT, runBox, runBuildSlice, List.length_cons, List.length_nil, List.cons_append, List.nil_append, List.replicate_succ, List.replicate_zero, List.length_replicate, Nat.reduceAdd, Nat.reduceSub, Nat.reduceMul, Nat.reduceLT, Nat.reduceLeDiff, Nat.reduceEqDiff, if_true, if_false, reduceIte, Bool.false_eq_true, Bool.true_eq_false, Option.bind_some, Option.map_some, Option.getD_some, List.set_cons_succ, List.set_cons_zero, List.getElem?_cons_succ, List.getElem?_cons_zero, List.length_set, List.getElem?_toArray, runEqNil, nilKind, bothNil, thenC_normal, thenC_ret, thenC_exit, condK_true, condK_false, mapN_some, mapB_normal, mapB_ret, mapB_exit, leave_ret, leave_normal, resVs, resV, oneOf, Option.isNone_none, Option.isNone_some, runNilck, runFieldAddr, asPtr, runUn, asB, capsOf, Bool.not_true, Bool.not_false, beq_self_eq_true, b_tf, b_ft, cells_agg, cells_int, cells_bool, cells_str, cells_ptr, cells_slice, cells_map, Nat.zero_add, Nat.add_zero, and_self, and_true, true_and, List.getElem?_set, R.len, R.t0, R.t8, R.sl.len, arith, iop, b1, b2] at hE2
        refine ⟨_, hE.trans hE2.symm, { box := R.box, nd := R.nd, ll := R.ll, sl := R.sl, slt := R.slt, up := R.up, new := R.new, len := ?_, t0 := ?_, t1 := ?_, t2 := ?_, t7 := ?_, t8 := ?_ }⟩ <;>
          simp -implicitDefEqProofs only [X_seq, X_region, X_cond, X_block, Exec_ret, Exec_skip, Exec_exit, X_cons, X_nil, opsK_some, guardK_true, guardK_false, wanted_none, wanted_some, stepOp, AOp.run, aval, avals, avalO, aparts, plain, putT, runBox, runBuildSlice, List.length_cons, List.length_nil, List.cons_append, List.nil_append, List.replicate_succ, List.replicate_zero, List.length_replicate, Nat.reduceAdd, Nat.reduceSub, Nat.reduceMul, Nat.reduceLT, Nat.reduceLeDiff, Nat.reduceEqDiff, if_true, if_false, reduceIte, Bool.false_eq_true, Bool.true_eq_false, Option.bind_some, Option.map_some, Option.getD_some, List.set_cons_succ, List.set_cons_zero, List.getElem?_cons_succ, List.getElem?_cons_zero, List.length_set, List.getElem?_toArray, runEqNil, nilKind, bothNil, thenC_normal, thenC_ret, thenC_exit, condK_true, condK_false, mapN_some, mapB_normal, mapB_ret, mapB_exit, leave_ret, leave_normal, resVs, resV, oneOf, Option.isNone_none, Option.isNone_some, runNilck, runFieldAddr, asPtr, runUn, asB, capsOf, Bool.not_true, Bool.not_false, beq_self_eq_true, b_tf, b_ft, cells_agg, cells_int, cells_bool, cells_str, cells_ptr, cells_slice, cells_map, Nat.zero_add, Nat.add_zero, and_self, and_true, true_and, List.getElem?_set, R.len, R.t0, R.t1, R.t2, R.t7, R.t8]
      · have b1 : decide ((i : Int) < (L.length : Int)) = false := by simp; omega
        obtain ⟨E, hE⟩ : ∃ E, Exec S tab (.loop fn8_l0) ts m = E := ⟨_, rfl⟩
        have hE2 := hE
        rw [X_loop] at hE2
        simp -implicitDefEqProofs only [fn8_l0, X_seq, X_region, X_cond, X_block, Exec_ret, Exec_skip, Exec_exit, X_cons, X_nil, opsK_some, guardK_true, guardK_false, wanted_none, wanted_some, stepOp, AOp.run, aval, avals, avalO, aparts, plain, putT, runBox, runBuildSlice, List.length_cons, List.length_nil, List.cons_append, List.nil_append, List.replicate_succ, List.replicate_zero, List.length_replicate, Nat.reduceAdd, Nat.reduceSub, Nat.reduceMul, Nat.reduceLT, Nat.reduceLeDiff, Nat.reduceEqDiff, if_true, if_false, reduceIte, Bool.false_eq_true, Bool.true_eq_false, Option.bind_some, Option.map_some, Option.getD_some, List.set_cons_succ, List.set_cons_zero, List.getElem?_cons_succ, List.getElem?_cons_zero, List.length_set, List.getElem?_toArray, runEqNil, nilKind, bothNil, thenC_normal, thenC_ret, thenC_exit, condK_true, condK_false, mapN_some, mapB_normal, mapB_ret, mapB_exit, leave_ret, leave_normal, resVs, resV, oneOf, Option.isNone_none, Option.isNone_some, runNilck, runFieldAddr, asPtr, runUn, asB, capsOf, Bool.not_true, Bool.not_false, beq_self_eq_true, b_tf, b_ft, cells_agg, cells_int, cells_bool, cells_str, cells_ptr, cells_slice, cells_map, Nat.zero_add, Nat.add_zero, and_self, and_true, true_and, List.getElem?_set, R.len, R.t0, R.t8, R.sl.len, arith, iop, b1] at hE2
        refine ⟨_, hE.trans hE2.symm, { box := R.box, nd := R.nd, ll := R.ll, sl := R.sl, slt := R.slt, up := R.up, new := R.new, len := ?_, t0 := ?_, t1 := ?_, t2 := ?_, t7 := ?_, t8 := ?_ }⟩ <;>
          simp -implicitDefEqProofs only [X_seq, X_region, X_cond, X_block, Exec_ret, Exec_skip, Exec_exit, X_cons, X_nil, opsK_some, guardK_true, guardK_false, wanted_none, wanted_some, stepOp, AOp.run, aval, avals, avalO, aparts, plain, putT, runBox, runBuildSlice, List.length_cons, List.length_nil, List.cons_append, List.nil_append, List.replicate_succ, List.replicate_zero, List.length_replicate, Nat.reduceAdd, Nat.reduceSub, Nat.reduceMul, Nat.reduceLT, Nat.reduceLeDiff, Nat.reduceEqDiff, if_true, if_false, reduceIte, Bool.false_eq_true, Bool.true_eq_false, Option.bind_some, Option.map_some, Option.getD_some, List.set_cons_succ, List.set_cons_zero, List.getElem?_cons_succ, List.getElem?_cons_zero, List.length_set, List.getElem?_toArray, runEqNil, nilKind, bothNil, thenC_normal, thenC_ret, thenC_exit, condK_true, condK_false, mapN_some, mapB_normal, mapB_ret, mapB_exit, leave_ret, leave_normal, resVs, resV, oneOf, Option.isNone_none, Option.isNone_some, runNilck, runFieldAddr, asPtr, runUn, asB, capsOf, Bool.not_true, Bool.not_false, beq_self_eq_true, b_tf, b_ft, cells_agg, cells_int, cells_bool, cells_str, cells_ptr, cells_slice, cells_map, Nat.zero_add, Nat.add_zero, and_self, and_true, true_and, List.getElem?_set, R.len, R.t0, R.t1, R.t2, R.t7, R.t8]
    obtain ⟨ts', h1, h2⟩ := hend
    exact ⟨ts', m, B, l, h1, h2⟩
  | succ d ih =>
    intro i ts m B l hi R
    have hin : i < L.length := by omega
    have b1 : decide ((i : Int) < (L.length : Int)) = true := by simp; omega
    have b2 : decide ((i : Int) < 50) = true := by simp; omega
    obtain ⟨b, off, hq1, hq2⟩ := R.sl.at .i64 (List.getElem?_eq_getElem hin)
    rw [isize] at hq1
    have hld := (hq2 m R.sl).2 0 (.int .i64 L[i]) rfl
    rw [Nat.add_zero] at hld
    have hwr := wrap_succ (i := i) (n := 50) (by omega) (by omega)
    obtain ⟨m1, B', j1, j2, j3, j4⟩ := join_ok L[i] R.box (by have := R.ll; omega)
    have hm1 := j3.next
    have hm0 := R.up.next
    have hround : ∃ ts', Exec S tab fn8_l0 ts m = some (.normal, ts', m1) ∧ FjR ids fits q id L (i + 1) ts' m1 B' (joined l L[i]) m0 := by
      obtain ⟨E, hE⟩ : ∃ E, Exec S tab fn8_l0 ts m = E := ⟨_, rfl⟩
      have hE2 := hE
      simp -implicitDefEqProofs only [fn8_l0, X_seq, X_region, X_cond, X_block, Exec_ret, Exec_skip, Exec_exit, X_cons, X_nil, opsK_some, guardK_true, guardK_false, wanted_none, wanted_some, stepOp, AOp.run, aval, avals, avalO, aparts, plain, putT, runBox, runBuildSlice, List.length_cons, List.length_nil, List.cons_append, List.nil_append, List.replicate_succ, List.replicate_zero, List.length_replicate, Nat.reduceAdd, Nat.reduceSub, Nat.reduceMul, Nat.reduceLT, Nat.reduceLeDiff, Nat.reduceEqDiff, if_true, if_false, reduceIte, Bool.false_eq_true, Bool.true_eq_false, Option.bind_some, Option.map_some, Option.getD_some, List.set_cons_succ, List.set_cons_zero, List.getElem?_cons_succ, List.getElem?_cons_zero, List.length_set, List.getElem?_toArray, runEqNil, nilKind, bothNil, thenC_normal, thenC_ret, thenC_exit, condK_true, condK_false, mapN_some, mapB_normal, mapB_ret, mapB_exit, leave_ret, leave_normal, resVs, resV, oneOf, Option.isNone_none, Option.isNone_some, runNilck, runFieldAddr, asPtr, runUn, asB, capsOf, Bool.not_true, Bool.not_false, beq_self_eq_true, b_tf, b_ft, cells_agg, cells_int, cells_bool, cells_str, cells_ptr, cells_slice, cells_map, Nat.zero_add, Nat.add_zero, and_self, and_true, true_and, List.getElem?_set, R.len, R.t0, R.t7, R.t8, R.sl.len, arith, iop, b1, b2, hq1, hld, j1, hwr] at hE2
      refine ⟨_, hE.trans hE2.symm, { box := j2, nd := joined_nodup R.nd, ll := by have := joined_len l L[i]; have := R.ll; omega, sl := R.sl.upd j3 R.slt, slt := fun b hb => ⟨by have := (R.slt b hb).1; omega, fun hb' => (j4 b hb').elim (R.slt b hb).2 (fun h => by have := (R.slt b hb).1; omega)⟩, up := R.up.trans_new j3 (fun b hb => .inr (R.new b hb)), new := fun b hb => (j4 b hb).elim (R.new b) (fun h => by omega), len := ?_, t0 := ?_, t1 := ?_, t2 := ?_, t7 := ?_, t8 := ?_ }⟩ <;>
        simp -implicitDefEqProofs only [X_seq, X_region, X_cond, X_block, Exec_ret, Exec_skip, Exec_exit, X_cons, X_nil, opsK_some, guardK_true, guardK_false, wanted_none, wanted_some, stepOp, AOp.run, aval, avals, avalO, aparts, plain, putT, runBox, runBuildSlice, List.length_cons, List.length_nil, List.cons_append, List.nil_append, List.replicate_succ, List.replicate_zero, List.length_replicate, Nat.reduceAdd, Nat.reduceSub, Nat.reduceMul, Nat.reduceLT, Nat.reduceLeDiff, Nat.reduceEqDiff, if_true, if_false, reduceIte, Bool.false_eq_true, Bool.true_eq_false, Option.bind_some, Option.map_some, Option.getD_some, List.set_cons_succ, List.set_cons_zero, List.getElem?_cons_succ, List.getElem?_cons_zero, List.length_set, List.getElem?_toArray, runEqNil, nilKind, bothNil, thenC_normal, thenC_ret, thenC_exit, condK_true, condK_false, mapN_some, mapB_normal, mapB_ret, mapB_exit, leave_ret, leave_normal, resVs, resV, oneOf, Option.isNone_none, Option.isNone_some, runNilck, runFieldAddr, asPtr, runUn, asB, capsOf, Bool.not_true, Bool.not_false, beq_self_eq_true, b_tf, b_ft, cells_agg, cells_int, cells_bool, cells_str, cells_ptr, cells_slice, cells_map, Nat.zero_add, Nat.add_zero, and_self, and_true, true_and, List.getElem?_set, R.len, R.t0, R.t1, R.t2, R.t7, R.t8]
    obtain ⟨ts', hr1, hr2⟩ := hround
    obtain ⟨ts'', m'', B'', l'', g1, g2⟩ := ih (i + 1) ts' m1 B' _ (by omega) hr2
    exact ⟨ts'', m'', B'', l'', by rw [X_loop, hr1, thenC_normal]; exact g1, g2⟩

/- rows of rows -/
structure SV where
  a : Option Addr
  n : Nat
  c : Nat
def SV.v (s : SV) : Value := .slice s.a s.n s.c
def encSV : Enc SV := ⟨1, fun s => [s.v], fun _ => rfl, fun _ => rfl⟩

/-- The place of a number that stays, behind a pick. -/
theorem fair_step {l fit : List Int} {id x : Int} (hnd : l.Nodup) (hid : id ∈ l) (hx : l.find? (fun x => decide (x ∈ fit ++ [id])) = some x) {j : Nat} (hj : l[j]? = some id) :
    (x = id ∧ (l.erase x ++ [x])[l.length - 1]? = some id) ∨ (x ≠ id ∧ 0 < j ∧ (l.erase x ++ [x])[j - 1]? = some id) := by
  obtain ⟨hxf, i, hi, hix, hbef⟩ := List.find?_eq_some_iff_getElem.1 hx
  by_cases hxid : x = id
  · subst hxid
    left
    refine ⟨rfl, ?_⟩
    rw [List.getElem?_append_right (by rw [List.length_erase_of_mem hid]; exact Nat.le_refl _), List.length_erase_of_mem hid, Nat.sub_self]
    rfl
  · right
    have hjl : j < l.length := by
      rcases Nat.lt_or_ge j l.length with h | h
      · exact h
      · rw [List.getElem?_eq_none h] at hj; cases hj
    have hj' : l[j] = id := by rw [List.getElem?_eq_getElem hjl] at hj; exact Option.some.inj hj
    have hij : i < j := by
      rcases Nat.lt_trichotomy i j with h | h | h
      · exact h
      · subst h; exact absurd (hix.symm.trans hj') hxid
      · have := hbef j h
        simp [hj'] at this
    refine ⟨hxid, by omega, ?_⟩
    have her : l.erase x = l.eraseIdx i := by
      rcases atFrom_spec x l 0 with ⟨_, h⟩ | ⟨k, hk, _, h1, h2⟩
      · exact absurd (by rw [← hix]; exact List.getElem_mem hi) h
      · rw [← h2]
        have : l[k]? = l[i]? := by rw [h1, List.getElem?_eq_getElem hi, hix]
        rw [(List.getElem?_inj hk hnd).1 this]
    rw [her, List.getElem?_append_left (by rw [List.length_eraseIdx]; split <;> omega), List.getElem?_eraseIdx, if_neg (by omega), show j - 1 + 1 = j by omega]
    exact hj

theorem append_nil0 (e : TypeId) (size eb : Nat) (m : Mem) : runAppend e size eb (.slice none 0 0) 0 [] m = some (.slice none 0 0, m) := by simp [runAppend]

/-- A list copied behind nothing, then one more. -/
theorem fit_ok {m : Mem} {v : Value} {F : List Int} (id : Int) (h : TSl encI m v F) (hF : F.length * 8 ≤ reachBytes) :
    ∃ v1 m1 v2 m2, runAppend 3 1 8 (.slice none 0 0) F.length (encI.flat F) m = some (v1, m1) ∧
      runAppend 3 1 8 v1 1 [.int .i64 id] (m1.add ⟨.cells [.int .i64 id] 3, false, none⟩) = some (v2, m2) ∧ TSl encI m2 v2 (F ++ [id]) ∧ Upd [] m m2 ∧ (∀ b ∈ blkOf v2, m.next ≤ b ∧ b < m2.next) := by
  have hr : reachBytes = 140737488351232 := by decide
  have h1 : ∃ v1 m1, runAppend 3 1 8 (.slice none 0 0) F.length (encI.flat F) m = some (v1, m1) ∧ TRm encI 3 m1 v1 F ∧ Upd [] m m1 ∧ ∀ b ∈ blkOf v1, m.next ≤ b := by
    by_cases hF0 : F = []
    · subst hF0
      exact ⟨_, _, append_nil0 3 1 8 m, TRm.nil m, Upd.refl _ _, fun b hb => by simp [blkOf] at hb⟩
    · obtain ⟨v1, m1, a1, a2, a3, a4⟩ := (TRm.nil (E := encI) (e := 3) m).append (k := F) (eb := 8) (by decide) hF0 (by simp; omega) (by simp; omega)
      exact ⟨v1, m1, a1, by simpa using a2, a3, fun b hb => (a4 b hb).elim (fun h => by simp [blkOf] at h) (fun h => h)⟩
  obtain ⟨v1, m1, a1, a2, a3, a4⟩ := h1
  have hu : Upd [] m1 (m1.add ⟨.cells [.int .i64 id] 3, false, none⟩) := Upd.add _ _ _
  have b2 := a2.upd hu (fun b _ hb => by simp at hb)
  obtain ⟨v2, m2, c1, c2, c3, c4⟩ := b2.append (k := [id]) (eb := 8) (by decide) (by simp) (by simp; omega) (by simp; omega)
  simp only [List.length_cons, List.length_nil, Nat.zero_add, encI.flat_one, isize, icells] at c1
  have hn1 := a3.next
  rw [Mem.next_add] at c4
  refine ⟨v1, m1, v2, m2, a1, c1, c2.tsl, (a3.trans hu).trans_new c3 (fun b hb => .inr (a4 b hb)), fun b hb => ⟨(c4 b hb).elim (a4 b) (fun h => by omega), c2.lt b hb⟩⟩

structure FlR (fits q : Value) (id : Int) (FS : List SV) (N i : Nat) (ts : List Value) (m : Mem) (B : List Nat) (l : List Int) (last : Nat) (m0 : Mem) : Prop where
  len : ts.length = 79
  t1 : ts[1]? = some fits
  t2 : ts[2]? = some (.int .i64 id)
  t7 : ts[7]? = some q
  t9 : ts[9]? = some (.int .i64 N)
  t10 : ts[10]? = some (.int .i64 last)
  t11 : ts[11]? = some (.int .i64 i)
  box : QAt m q B l
  nd : l.Nodup
  ln : l.length = N
  pos : ∃ j, l[j]? = some id ∧ j + last + 1 ≤ N
  up : Upd [] m0 m
  new : ∀ b ∈ B, m0.next ≤ b

set_option maxHeartbeats 600000 in
theorem fl_loop (fits q : Value) (id : Int) (FS : List SV) (N : Nat) (m0 : Mem) (hN : N ≤ 51) (hfs : TSl encSV m0 fits FS) (hfb : ∀ b ∈ blkOf fits, b < m0.next)
    (hall : ∀ s ∈ FS, ∃ F : List Int, TSl encI m0 s.v F ∧ F.length * 8 ≤ reachBytes ∧ ∀ b ∈ blkOf s.v, b < m0.next) (n : Nat) (hn : n = min FS.length 300) : ∀ (d i : Nat) (ts : List Value) (m : Mem) (B : List Nat) (l : List Int) (last : Nat), i + d = n → FlR fits q id FS N i ts m B l last m0 →
    ∃ ts' m' B' l' last', Exec S tab (.loop fn8_l1) ts m = some (.exit 2, ts', m') ∧ FlR fits q id FS N n ts' m' B' l' last' m0 := by
  intro d
  induction d with
  | zero =>
    intro i ts m B l last hi R
    obtain rfl : i = n := by omega
    have sl := hfs.upd R.up (fun b hb => ⟨hfb b hb, by simp⟩)
    have hend : ∃ ts', Exec S tab (.loop fn8_l1) ts m = some (.exit 2, ts', m) ∧ FlR fits q id FS N i ts' m B l last m0 := by
      by_cases h1 : i < FS.length
      · have b1 : decide ((i : Int) < (FS.length : Int)) = true := by simp; omega
        have b2 : decide ((i : Int) < 300) = false := by simp; omega
        obtain ⟨E, hE⟩ : ∃ E, Exec S tab (.loop fn8_l1) ts m = E := ⟨_, rfl⟩
        have hE2 := hE
        rw [X_loop] at hE2
        simp -implicitDefEqProofs only [fn8_l1, X_seq, X_region, X_cond, X_block, Exec_ret, Exec_skip, Exec_exit, X_cons, X_nil, opsK_some, guardK_true, guardK_false, wanted_none, wanted_some, stepOp, AOp.run, aval, avals, avalO, aparts, plain, putT, runBox, runBuildSlice, List.length_cons, List.length_nil, List.cons_append, List.nil_append, List.replicate_succ, List.replicate_zero, List.length_replicate, Nat.reduceAdd, Nat.reduceSub, Nat.reduceMul, Nat.reduceLT, Nat.reduceLeDiff, Nat.reduceEqDiff, if_true, if_false, reduceIte, Bool.false_eq_true, Bool.true_eq_false, Option.bind_some, Option.map_some, Option.getD_some, List.set_cons_succ, List.set_cons_zero, List.getElem?_cons_succ, List.getElem?_cons_zero, List.length_set, List.getElem?_toArray, runEqNil, nilKind, bothNil, thenC_normal, thenC_ret, thenC_exit, condK_true, condK_false, mapN_some, mapB_normal, mapB_ret, mapB_exit, leave_ret, leave_normal, resVs, resV, oneOf, Option.isNone_none, Option.isNone_some, runNilck, runFieldAddr, asPtr, runUn, asB, capsOf, Bool.not_true, Bool.not_false, beq_self_eq_true, b_tf, b_ft, cells_agg, cells_int, cells_bool, cells_str, cells_ptr, cells_slice, cells_map, Nat.zero_add, Nat.add_zero, and_self, and_true, true_and, List.getElem?_set, R.len, R.t1, R.t11, sl.len, arith, iop, b1, b2] at hE2
        refine ⟨_, hE.trans hE2.symm, { box := R.box, nd := R.nd, ln := R.ln, pos := R.pos, up := R.up, new := R.new, len := ?_, t1 := ?_, t2 := ?_, t7 := ?_, t9 := ?_, t10 := ?_, t11 := ?_ }⟩ <;>
          simp -implicitDefEqProofs only [X_seq, X_region, X_cond, X_block, Exec_ret, Exec_skip, Exec_exit, X_cons, X_nil, opsK_some, guardK_true, guardK_false, wanted_none, wanted_some, stepOp, AOp.run, aval, avals, avalO, aparts, plain, putT, runBox, runBuildSlice, List.length_cons, List.length_nil, List.cons_append, List.nil_append, List.replicate_succ, List.replicate_zero, List.length_replicate, Nat.reduceAdd, Nat.reduceSub, Nat.reduceMul, Nat.reduceLT, Nat.reduceLeDiff, Nat.reduceEqDiff, if_true, if_false, reduceIte, Bool.false_eq_true, Bool.true_eq_false, Option.bind_some, Option.map_some, Option.getD_some, List.set_cons_succ, List.set_cons_zero, List.getElem?_cons_succ, List.getElem?_cons_zero, List.length_set, List.getElem?_toArray, runEqNil, nilKind, bothNil, thenC_normal, thenC_ret, thenC_exit, condK_true, condK_false, mapN_some, mapB_normal, mapB_ret, mapB_exit, leave_ret, leave_normal, resVs, resV, oneOf, Option.isNone_none, Option.isNone_some, runNilck, runFieldAddr, asPtr, runUn, asB, capsOf, Bool.not_true, Bool.not_false, beq_self_eq_true, b_tf, b_ft, cells_agg, cells_int, cells_bool, cells_str, cells_ptr, cells_slice, cells_map, Nat.zero_add, Nat.add_zero, and_self, and_true, true_and, List.getElem?_set, R.len, R.t1, R.t2, R.t7, R.t9, R.t10, R.t11]
      · have b1 : decide ((i : Int) < (FS.length : Int)) = false := by simp; omega
        obtain ⟨E, hE⟩ : ∃ E, Exec S tab (.loop fn8_l1) ts m = E := ⟨_, rfl⟩
        have hE2 := hE
        rw [X_loop] at hE2
        simp -implicitDefEqProofs only [fn8_l1, X_seq, X_region, X_cond, X_block, Exec_ret, Exec_skip, Exec_exit, X_cons, X_nil, opsK_some, guardK_true, guardK_false, wanted_none, wanted_some, stepOp, AOp.run, aval, avals, avalO, aparts, plain, putT, runBox, runBuildSlice, List.length_cons, List.length_nil, List.cons_append, List.nil_append, List.replicate_succ, List.replicate_zero, List.length_replicate, Nat.reduceAdd, Nat.reduceSub, Nat.reduceMul, Nat.reduceLT, Nat.reduceLeDiff, Nat.reduceEqDiff, if_true, if_false, reduceIte, Bool.false_eq_true, Bool.true_eq_false, Option.bind_some, Option.map_some, Option.getD_some, List.set_cons_succ, List.set_cons_zero, List.getElem?_cons_succ, List.getElem?_cons_zero, List.length_set, List.getElem?_toArray, runEqNil, nilKind, bothNil, thenC_normal, thenC_ret, thenC_exit, condK_true, condK_false, mapN_some, mapB_normal, mapB_ret, mapB_exit, leave_ret, leave_normal, resVs, resV, oneOf, Option.isNone_none, Option.isNone_some, runNilck, runFieldAddr, asPtr, runUn, asB, capsOf, Bool.not_true, Bool.not_false, beq_self_eq_true, b_tf, b_ft, cells_agg, cells_int, cells_bool, cells_str, cells_ptr, cells_slice, cells_map, Nat.zero_add, Nat.add_zero, and_self, and_true, true_and, List.getElem?_set, R.len, R.t1, R.t11, sl.len, arith, iop, b1] at hE2
        refine ⟨_, hE.trans hE2.symm, { box := R.box, nd := R.nd, ln := R.ln, pos := R.pos, up := R.up, new := R.new, len := ?_, t1 := ?_, t2 := ?_, t7 := ?_, t9 := ?_, t10 := ?_, t11 := ?_ }⟩ <;>
          simp -implicitDefEqProofs only [X_seq, X_region, X_cond, X_block, Exec_ret, Exec_skip, Exec_exit, X_cons, X_nil, opsK_some, guardK_true, guardK_false, wanted_none, wanted_some, stepOp, AOp.run, aval, avals, avalO, aparts, plain, putT, runBox, runBuildSlice, List.length_cons, List.length_nil, List.cons_append, List.nil_append, List.replicate_succ, List.replicate_zero, List.length_replicate, Nat.reduceAdd, Nat.reduceSub, Nat.reduceMul, Nat.reduceLT, Nat.reduceLeDiff, Nat.reduceEqDiff, if_true, if_false, reduceIte, Bool.false_eq_true, Bool.true_eq_false, Option.bind_some, Option.map_some, Option.getD_some, List.set_cons_succ, List.set_cons_zero, List.getElem?_cons_succ, List.getElem?_cons_zero, List.length_set, List.getElem?_toArray, runEqNil, nilKind, bothNil, thenC_normal, thenC_ret, thenC_exit, condK_true, condK_false, mapN_some, mapB_normal, mapB_ret, mapB_exit, leave_ret, leave_normal, resVs, resV, oneOf, Option.isNone_none, Option.isNone_some, runNilck, runFieldAddr, asPtr, runUn, asB, capsOf, Bool.not_true, Bool.not_false, beq_self_eq_true, b_tf, b_ft, cells_agg, cells_int, cells_bool, cells_str, cells_ptr, cells_slice, cells_map, Nat.zero_add, Nat.add_zero, and_self, and_true, true_and, List.getElem?_set, R.len, R.t1, R.t2, R.t7, R.t9, R.t10, R.t11]
    obtain ⟨ts', h1, h2⟩ := hend
    exact ⟨ts', m, B, l, last, h1, h2⟩
  | succ d ih =>
    intro i ts m B l last hi R
    have hin : i < FS.length := by omega
    have b1 : decide ((i : Int) < (FS.length : Int)) = true := by simp; omega
    have b2 : decide ((i : Int) < 300) = true := by simp; omega
    have sl := hfs.upd R.up (fun b hb => ⟨hfb b hb, by simp⟩)
    obtain ⟨b, off, hq1, hq2⟩ := sl.at .i64 (List.getElem?_eq_getElem hin)
    rw [show encSV.size = 1 from rfl] at hq1
    have hld := (hq2 m sl).2 0 FS[i].v rfl
    rw [Nat.add_zero] at hld
    obtain ⟨F, f1, f2, f3⟩ := hall FS[i] (List.getElem_mem hin)
    have f1m := f1.upd R.up (fun b hb => ⟨f3 b hb, by simp⟩)
    have hwr := wrap_succ (i := i) (n := 300) (by omega) (by omega)
    obtain ⟨v1, m1, v2, m2, e1, e2, e3, e4, e5⟩ := fit_ok id f1m f2
    have hsrcF := f1m.src
    rw [isize] at hsrcF
    generalize FS[i].v = sv at hld hsrcF
    have hsrc1 : runSrc 1 (.slice (some ⟨m1.next, 0, none⟩) 1 1) (m1.add ⟨.cells [.int .i64 id] 3, false, none⟩) = some (1, [.int .i64 id]) := by
      simp [runSrc, cellsAt_of_get (Mem.get_add_self m1 _)]
    have hfill : afill [.int .i64 0] [(0, 1, .int .i64 id)] = some [.int .i64 id] := rfl
    generalize hm1a : m1.add ⟨.cells [.int .i64 id] 3, false, none⟩ = m1a at *
    have q2 := R.box.upd e4 (fun b _ hb => by simp at hb)
    obtain ⟨j, hj1, hj2⟩ := R.pos
    have hid : id ∈ l := List.mem_of_getElem? hj1
    have hr : reachBytes = 140737488351232 := by decide
    have hm0 := R.up.next
    have hm2 := e4.next
    obtain ⟨x, hx⟩ : ∃ x, l.find? (fun x => decide (x ∈ F ++ [id])) = some x := by
      cases hfd : l.find? (fun x => decide (x ∈ F ++ [id])) with
      | some x => exact ⟨x, rfl⟩
      | none =>
        have := List.find?_eq_none.1 hfd id hid
        simp at this
    obtain ⟨m3, p1, B', p2, p3, p4⟩ := (pick_ok q2 R.nd (by have := R.ln; omega) e3 (fun b hb => (e5 b hb).2) (by simp; omega)).2 x hx
    have hstep := fair_step R.nd hid hx hj1
    have hxl : x ∈ l := List.mem_of_find?_eq_some hx
    have hnd' : (l.erase x ++ [x]).Nodup := by
      rw [List.nodup_append]
      exact ⟨R.nd.erase x, by simp, fun a ha b hb => by simp at hb; subst hb; rintro rfl; exact ((R.nd.mem_erase_iff).1 ha).1 rfl⟩
    have hln' : (l.erase x ++ [x]).length = N := by
      have := R.ln
      rw [List.length_append, List.length_erase_of_mem hxl]
      have : 0 < l.length := List.length_pos_of_mem hxl
      simp; omega
    have hup' : Upd [] m0 m3 := (R.up.trans e4).trans_new p3 (fun b hb => .inr (R.new b hb))
    have hnew' : ∀ b ∈ B', m0.next ≤ b := fun b hb => (p4 b hb).elim (R.new b) (fun h => by omega)
    have hwl : IntKind.i64.wrap ((last : Int) + 1) = ((last + 1 : Nat) : Int) := by rw [wrap_in (by omega) (by omega)]; rfl
    have hround : ∃ ts' last', Exec S tab fn8_l1 ts m = some (.normal, ts', m3) ∧ FlR fits q id FS N (i + 1) ts' m3 B' (l.erase x ++ [x]) last' m0 := by
      by_cases hxid : x = id
      · have bx : (x == id) = true := by simpa using hxid
        have hpos : ∃ j, (l.erase x ++ [x])[j]? = some id ∧ j + 0 + 1 ≤ N := by
          rcases hstep with ⟨_, h⟩ | ⟨h, _⟩
          · exact ⟨l.length - 1, h, by have := R.ln; have : 0 < l.length := List.length_pos_of_mem hxl; omega⟩
          · exact absurd hxid h
        have bg : decide ((0 : Int) ≥ (N : Int)) = false := by simp; omega
        obtain ⟨E, hE⟩ : ∃ E, Exec S tab fn8_l1 ts m = E := ⟨_, rfl⟩
        have hE2 := hE
        simp -implicitDefEqProofs only [fn8_l1, X_seq, X_region, X_cond, X_block, Exec_ret, Exec_skip, Exec_exit, X_cons, X_nil, opsK_some, guardK_true, guardK_false, wanted_none, wanted_some, stepOp, AOp.run, aval, avals, avalO, aparts, plain, putT, runBox, runBuildSlice, List.length_cons, List.length_nil, List.cons_append, List.nil_append, List.replicate_succ, List.replicate_zero, List.length_replicate, Nat.reduceAdd, Nat.reduceSub, Nat.reduceMul, Nat.reduceLT, Nat.reduceLeDiff, Nat.reduceEqDiff, if_true, if_false, reduceIte, Bool.false_eq_true, Bool.true_eq_false, Option.bind_some, Option.map_some, Option.getD_some, List.set_cons_succ, List.set_cons_zero, List.getElem?_cons_succ, List.getElem?_cons_zero, List.length_set, List.getElem?_toArray, runEqNil, nilKind, bothNil, thenC_normal, thenC_ret, thenC_exit, condK_true, condK_false, mapN_some, mapB_normal, mapB_ret, mapB_exit, leave_ret, leave_normal, resVs, resV, oneOf, Option.isNone_none, Option.isNone_some, runNilck, runFieldAddr, asPtr, runUn, asB, capsOf, Bool.not_true, Bool.not_false, beq_self_eq_true, b_tf, b_ft, cells_agg, cells_int, cells_bool, cells_str, cells_ptr, cells_slice, cells_map, Nat.zero_add, Nat.add_zero, and_self, and_true, true_and, List.getElem?_set, R.len, R.t1, R.t2, R.t7, R.t9, R.t10, R.t11, sl.len, arith, iop, b1, b2, hq1, hld, hsrcF, e1, hfill, hm1a, hsrc1, e2, p1, runExtract, hwl, bx, bg, hwr] at hE2
        refine ⟨_, 0, hE.trans hE2.symm, { box := p2, nd := hnd', ln := hln', pos := hpos, up := hup', new := hnew', len := ?_, t1 := ?_, t2 := ?_, t7 := ?_, t9 := ?_, t10 := ?_, t11 := ?_ }⟩
        all_goals simp -implicitDefEqProofs only [X_seq, X_region, X_cond, X_block, Exec_ret, Exec_skip, Exec_exit, X_cons, X_nil, opsK_some, guardK_true, guardK_false, wanted_none, wanted_some, stepOp, AOp.run, aval, avals, avalO, aparts, plain, putT, runBox, runBuildSlice, List.length_cons, List.length_nil, List.cons_append, List.nil_append, List.replicate_succ, List.replicate_zero, List.length_replicate, Nat.reduceAdd, Nat.reduceSub, Nat.reduceMul, Nat.reduceLT, Nat.reduceLeDiff, Nat.reduceEqDiff, if_true, if_false, reduceIte, Bool.false_eq_true, Bool.true_eq_false, Option.bind_some, Option.map_some, Option.getD_some, List.set_cons_succ, List.set_cons_zero, List.getElem?_cons_succ, List.getElem?_cons_zero, List.length_set, List.getElem?_toArray, runEqNil, nilKind, bothNil, thenC_normal, thenC_ret, thenC_exit, condK_true, condK_false, mapN_some, mapB_normal, mapB_ret, mapB_exit, leave_ret, leave_normal, resVs, resV, oneOf, Option.isNone_none, Option.isNone_some, runNilck, runFieldAddr, asPtr, runUn, asB, capsOf, Bool.not_true, Bool.not_false, beq_self_eq_true, b_tf, b_ft, cells_agg, cells_int, cells_bool, cells_str, cells_ptr, cells_slice, cells_map, Nat.zero_add, Nat.add_zero, and_self, and_true, true_and, List.getElem?_set, R.len, R.t1, R.t2, R.t7, R.t9, R.t10, R.t11]
        rfl
      · have bx : (x == id) = false := by simpa using hxid
        rcases hstep with ⟨h, _⟩ | ⟨_, hj0, hj⟩
        · exact absurd h hxid
        have bg : decide (((last + 1 : Nat) : Int) ≥ (N : Int)) = false := by simp; omega
        obtain ⟨E, hE⟩ : ∃ E, Exec S tab fn8_l1 ts m = E := ⟨_, rfl⟩
        have hE2 := hE
        simp -implicitDefEqProofs only [fn8_l1, X_seq, X_region, X_cond, X_block, Exec_ret, Exec_skip, Exec_exit, X_cons, X_nil, opsK_some, guardK_true, guardK_false, wanted_none, wanted_some, stepOp, AOp.run, aval, avals, avalO, aparts, plain, putT, runBox, runBuildSlice, List.length_cons, List.length_nil, List.cons_append, List.nil_append, List.replicate_succ, List.replicate_zero, List.length_replicate, Nat.reduceAdd, Nat.reduceSub, Nat.reduceMul, Nat.reduceLT, Nat.reduceLeDiff, Nat.reduceEqDiff, if_true, if_false, reduceIte, Bool.false_eq_true, Bool.true_eq_false, Option.bind_some, Option.map_some, Option.getD_some, List.set_cons_succ, List.set_cons_zero, List.getElem?_cons_succ, List.getElem?_cons_zero, List.length_set, List.getElem?_toArray, runEqNil, nilKind, bothNil, thenC_normal, thenC_ret, thenC_exit, condK_true, condK_false, mapN_some, mapB_normal, mapB_ret, mapB_exit, leave_ret, leave_normal, resVs, resV, oneOf, Option.isNone_none, Option.isNone_some, runNilck, runFieldAddr, asPtr, runUn, asB, capsOf, Bool.not_true, Bool.not_false, beq_self_eq_true, b_tf, b_ft, cells_agg, cells_int, cells_bool, cells_str, cells_ptr, cells_slice, cells_map, Nat.zero_add, Nat.add_zero, and_self, and_true, true_and, List.getElem?_set, R.len, R.t1, R.t2, R.t7, R.t9, R.t10, R.t11, sl.len, arith, iop, b1, b2, hq1, hld, hsrcF, e1, hfill, hm1a, hsrc1, e2, p1, runExtract, hwl, bx, bg, hwr] at hE2
        refine ⟨_, last + 1, hE.trans hE2.symm, { box := p2, nd := hnd', ln := hln', pos := ⟨j - 1, hj, by omega⟩, up := hup', new := hnew', len := ?_, t1 := ?_, t2 := ?_, t7 := ?_, t9 := ?_, t10 := ?_, t11 := ?_ }⟩ <;>
          simp -implicitDefEqProofs only [X_seq, X_region, X_cond, X_block, Exec_ret, Exec_skip, Exec_exit, X_cons, X_nil, opsK_some, guardK_true, guardK_false, wanted_none, wanted_some, stepOp, AOp.run, aval, avals, avalO, aparts, plain, putT, runBox, runBuildSlice, List.length_cons, List.length_nil, List.cons_append, List.nil_append, List.replicate_succ, List.replicate_zero, List.length_replicate, Nat.reduceAdd, Nat.reduceSub, Nat.reduceMul, Nat.reduceLT, Nat.reduceLeDiff, Nat.reduceEqDiff, if_true, if_false, reduceIte, Bool.false_eq_true, Bool.true_eq_false, Option.bind_some, Option.map_some, Option.getD_some, List.set_cons_succ, List.set_cons_zero, List.getElem?_cons_succ, List.getElem?_cons_zero, List.length_set, List.getElem?_toArray, runEqNil, nilKind, bothNil, thenC_normal, thenC_ret, thenC_exit, condK_true, condK_false, mapN_some, mapB_normal, mapB_ret, mapB_exit, leave_ret, leave_normal, resVs, resV, oneOf, Option.isNone_none, Option.isNone_some, runNilck, runFieldAddr, asPtr, runUn, asB, capsOf, Bool.not_true, Bool.not_false, beq_self_eq_true, b_tf, b_ft, cells_agg, cells_int, cells_bool, cells_str, cells_ptr, cells_slice, cells_map, Nat.zero_add, Nat.add_zero, and_self, and_true, true_and, List.getElem?_set, R.len, R.t1, R.t2, R.t7, R.t9, R.t10, R.t11]
    obtain ⟨ts', last', hr1, hr2⟩ := hround
    obtain ⟨ts'', m'', B'', l'', last'', g1, g2⟩ := ih (i + 1) ts' m3 B' _ _ (by omega) hr2
    exact ⟨ts'', m'', B'', l'', last'', by rw [X_loop, hr1, thenC_normal]; exact g1, g2⟩

theorem dutyFair {m : Mem} {v w : Value} {L : List Int} {FS : List SV} (id : Int) (h : TSl encI m v L) (hb : ∀ b ∈ blkOf v, b < m.next) (hfs : TSl encSV m w FS) (hfb : ∀ b ∈ blkOf w, b < m.next)
    (hall : ∀ s ∈ FS, ∃ F : List Int, TSl encI m s.v F ∧ F.length * 8 ≤ reachBytes ∧ ∀ b ∈ blkOf s.v, b < m.next) : ∃ m', Call S tab 8 [v, w, .int .i64 id] m = some (.bool true, m') := by
  obtain ⟨q, m1, n1, n2, n3⟩ := qnew_ok m
  have hm1 := n3.next
  have hbn := n2.lt m.next (by simp)
  obtain ⟨ts1, m2, B, l, h1, R⟩ := fj_loop v w q id L m (min L.length 50) rfl (min L.length 50) 0
    ([v, w, .int .i64 id, undef, undef, undef, .bool false, q, .int .i64 0, undef, undef, undef, undef, undef, undef, .bool true, .bool false, q] ++ List.replicate 61 undef) m1 [m.next] [] (by omega)
    ⟨by simp, rfl, rfl, rfl, rfl, rfl, n2, by simp, by simp, h.upd n3 (fun b hb' => ⟨hb b hb', by simp⟩), fun b hb' => ⟨by have := hb b hb'; omega, by simp; have := hb b hb'; omega⟩, n3, by simp⟩
  simp only [List.replicate_succ, List.replicate_zero, List.cons_append, List.nil_append] at h1
  have hl : l.length ≤ 50 := by have := R.ll; omega
  obtain ⟨m3, B3, j1, j2, j3, j4⟩ := join_ok id R.box (by omega)
  have hl3 : (joined l id).length ≤ 51 := by have := joined_len l id; omega
  obtain ⟨av, m4, a1, a2, a3, a4⟩ := qall_ok j2 (by omega)
  have q4 := j2.upd a3 (fun b _ hb => by simp at hb)
  have hid : id ∈ joined l id := by
    unfold joined; split
    · assumption
    · simp
  obtain ⟨j, hj⟩ := List.getElem?_of_mem hid
  have hjl : j < (joined l id).length := by
    rcases Nat.lt_or_ge j (joined l id).length with h | h
    · exact h
    · rw [List.getElem?_eq_none h] at hj; cases hj
  have hm2 := R.up.next
  have up4 : Upd [] m m4 := (R.up.trans_new j3 (fun b hb => .inr (R.new b hb))).trans a3
  have new3 : ∀ b ∈ B3, m.next ≤ b := fun b hb => (j4 b hb).elim (R.new b) (fun h => by omega)
  have hlen := a2.len
  obtain ⟨ts2, m5, B5, l5, last, h2, R2⟩ := fl_loop w q id FS (joined l id).length m hl3 hfs hfb hall (min FS.length 300) rfl (min FS.length 300) 0 ((((((((((ts1.set 34 q).set 35 (.int .i64 id)).set 36 (.bool (!decide (id ∈ l)))).set 37 q).set 38 av).set 39 (.int .i64 (joined l id).length)).set 9 (.int .i64 (joined l id).length)).set 10 (.int .i64 0)).set 11 (.int .i64 0))) m4 B3 (joined l id) 0 (by omega)
    ⟨by simp [R.len], by simp -implicitDefEqProofs only [X_seq, X_region, X_cond, X_block, Exec_ret, Exec_skip, Exec_exit, X_cons, X_nil, opsK_some, guardK_true, guardK_false, wanted_none, wanted_some, stepOp, AOp.run, aval, avals, avalO, aparts, plain, putT, runBox, runBuildSlice, List.length_cons, List.length_nil, List.cons_append, List.nil_append, List.replicate_succ, List.replicate_zero, List.length_replicate, Nat.reduceAdd, Nat.reduceSub, Nat.reduceMul, Nat.reduceLT, Nat.reduceLeDiff, Nat.reduceEqDiff, if_true, if_false, reduceIte, Bool.false_eq_true, Bool.true_eq_false, Option.bind_some, Option.map_some, Option.getD_some, List.set_cons_succ, List.set_cons_zero, List.getElem?_cons_succ, List.getElem?_cons_zero, List.length_set, List.getElem?_toArray, runEqNil, nilKind, bothNil, thenC_normal, thenC_ret, thenC_exit, condK_true, condK_false, mapN_some, mapB_normal, mapB_ret, mapB_exit, leave_ret, leave_normal, resVs, resV, oneOf, Option.isNone_none, Option.isNone_some, runNilck, runFieldAddr, asPtr, runUn, asB, capsOf, Bool.not_true, Bool.not_false, beq_self_eq_true, b_tf, b_ft, cells_agg, cells_int, cells_bool, cells_str, cells_ptr, cells_slice, cells_map, Nat.zero_add, Nat.add_zero, and_self, and_true, true_and, List.getElem?_set, R.len, R.t1], by simp -implicitDefEqProofs only [X_seq, X_region, X_cond, X_block, Exec_ret, Exec_skip, Exec_exit, X_cons, X_nil, opsK_some, guardK_true, guardK_false, wanted_none, wanted_some, stepOp, AOp.run, aval, avals, avalO, aparts, plain, putT, runBox, runBuildSlice, List.length_cons, List.length_nil, List.cons_append, List.nil_append, List.replicate_succ, List.replicate_zero, List.length_replicate, Nat.reduceAdd, Nat.reduceSub, Nat.reduceMul, Nat.reduceLT, Nat.reduceLeDiff, Nat.reduceEqDiff, if_true, if_false, reduceIte, Bool.false_eq_true, Bool.true_eq_false, Option.bind_some, Option.map_some, Option.getD_some, List.set_cons_succ, List.set_cons_zero, List.getElem?_cons_succ, List.getElem?_cons_zero, List.length_set, List.getElem?_toArray, runEqNil, nilKind, bothNil, thenC_normal, thenC_ret, thenC_exit, condK_true, condK_false, mapN_some, mapB_normal, mapB_ret, mapB_exit, leave_ret, leave_normal, resVs, resV, oneOf, Option.isNone_none, Option.isNone_some, runNilck, runFieldAddr, asPtr, runUn, asB, capsOf, Bool.not_true, Bool.not_false, beq_self_eq_true, b_tf, b_ft, cells_agg, cells_int, cells_bool, cells_str, cells_ptr, cells_slice, cells_map, Nat.zero_add, Nat.add_zero, and_self, and_true, true_and, List.getElem?_set, R.len, R.t2], by simp -implicitDefEqProofs only [X_seq, X_region, X_cond, X_block, Exec_ret, Exec_skip, Exec_exit, X_cons, X_nil, opsK_some, guardK_true, guardK_false, wanted_none, wanted_some, stepOp, AOp.run, aval, avals, avalO, aparts, plain, putT, runBox, runBuildSlice, List.length_cons, List.length_nil, List.cons_append, List.nil_append, List.replicate_succ, List.replicate_zero, List.length_replicate, Nat.reduceAdd, Nat.reduceSub, Nat.reduceMul, Nat.reduceLT, Nat.reduceLeDiff, Nat.reduceEqDiff, if_true, if_false, reduceIte, Bool.false_eq_true, Bool.true_eq_false, Option.bind_some, Option.map_some, Option.getD_some, List.set_cons_succ, List.set_cons_zero, List.getElem?_cons_succ, List.getElem?_cons_zero, List.length_set, List.getElem?_toArray, runEqNil, nilKind, bothNil, thenC_normal, thenC_ret, thenC_exit, condK_true, condK_false, mapN_some, mapB_normal, mapB_ret, mapB_exit, leave_ret, leave_normal, resVs, resV, oneOf, Option.isNone_none, Option.isNone_some, runNilck, runFieldAddr, asPtr, runUn, asB, capsOf, Bool.not_true, Bool.not_false, beq_self_eq_true, b_tf, b_ft, cells_agg, cells_int, cells_bool, cells_str, cells_ptr, cells_slice, cells_map, Nat.zero_add, Nat.add_zero, and_self, and_true, true_and, List.getElem?_set, R.len, R.t7], by simp -implicitDefEqProofs only [X_seq, X_region, X_cond, X_block, Exec_ret, Exec_skip, Exec_exit, X_cons, X_nil, opsK_some, guardK_true, guardK_false, wanted_none, wanted_some, stepOp, AOp.run, aval, avals, avalO, aparts, plain, putT, runBox, runBuildSlice, List.length_cons, List.length_nil, List.cons_append, List.nil_append, List.replicate_succ, List.replicate_zero, List.length_replicate, Nat.reduceAdd, Nat.reduceSub, Nat.reduceMul, Nat.reduceLT, Nat.reduceLeDiff, Nat.reduceEqDiff, if_true, if_false, reduceIte, Bool.false_eq_true, Bool.true_eq_false, Option.bind_some, Option.map_some, Option.getD_some, List.set_cons_succ, List.set_cons_zero, List.getElem?_cons_succ, List.getElem?_cons_zero, List.length_set, List.getElem?_toArray, runEqNil, nilKind, bothNil, thenC_normal, thenC_ret, thenC_exit, condK_true, condK_false, mapN_some, mapB_normal, mapB_ret, mapB_exit, leave_ret, leave_normal, resVs, resV, oneOf, Option.isNone_none, Option.isNone_some, runNilck, runFieldAddr, asPtr, runUn, asB, capsOf, Bool.not_true, Bool.not_false, beq_self_eq_true, b_tf, b_ft, cells_agg, cells_int, cells_bool, cells_str, cells_ptr, cells_slice, cells_map, Nat.zero_add, Nat.add_zero, and_self, and_true, true_and, List.getElem?_set, R.len], by simp -implicitDefEqProofs only [X_seq, X_region, X_cond, X_block, Exec_ret, Exec_skip, Exec_exit, X_cons, X_nil, opsK_some, guardK_true, guardK_false, wanted_none, wanted_some, stepOp, AOp.run, aval, avals, avalO, aparts, plain, putT, runBox, runBuildSlice, List.length_cons, List.length_nil, List.cons_append, List.nil_append, List.replicate_succ, List.replicate_zero, List.length_replicate, Nat.reduceAdd, Nat.reduceSub, Nat.reduceMul, Nat.reduceLT, Nat.reduceLeDiff, Nat.reduceEqDiff, if_true, if_false, reduceIte, Bool.false_eq_true, Bool.true_eq_false, Option.bind_some, Option.map_some, Option.getD_some, List.set_cons_succ, List.set_cons_zero, List.getElem?_cons_succ, List.getElem?_cons_zero, List.length_set, List.getElem?_toArray, runEqNil, nilKind, bothNil, thenC_normal, thenC_ret, thenC_exit, condK_true, condK_false, mapN_some, mapB_normal, mapB_ret, mapB_exit, leave_ret, leave_normal, resVs, resV, oneOf, Option.isNone_none, Option.isNone_some, runNilck, runFieldAddr, asPtr, runUn, asB, capsOf, Bool.not_true, Bool.not_false, beq_self_eq_true, b_tf, b_ft, cells_agg, cells_int, cells_bool, cells_str, cells_ptr, cells_slice, cells_map, Nat.zero_add, Nat.add_zero, and_self, and_true, true_and, List.getElem?_set, R.len]; rfl, by simp -implicitDefEqProofs only [X_seq, X_region, X_cond, X_block, Exec_ret, Exec_skip, Exec_exit, X_cons, X_nil, opsK_some, guardK_true, guardK_false, wanted_none, wanted_some, stepOp, AOp.run, aval, avals, avalO, aparts, plain, putT, runBox, runBuildSlice, List.length_cons, List.length_nil, List.cons_append, List.nil_append, List.replicate_succ, List.replicate_zero, List.length_replicate, Nat.reduceAdd, Nat.reduceSub, Nat.reduceMul, Nat.reduceLT, Nat.reduceLeDiff, Nat.reduceEqDiff, if_true, if_false, reduceIte, Bool.false_eq_true, Bool.true_eq_false, Option.bind_some, Option.map_some, Option.getD_some, List.set_cons_succ, List.set_cons_zero, List.getElem?_cons_succ, List.getElem?_cons_zero, List.length_set, List.getElem?_toArray, runEqNil, nilKind, bothNil, thenC_normal, thenC_ret, thenC_exit, condK_true, condK_false, mapN_some, mapB_normal, mapB_ret, mapB_exit, leave_ret, leave_normal, resVs, resV, oneOf, Option.isNone_none, Option.isNone_some, runNilck, runFieldAddr, asPtr, runUn, asB, capsOf, Bool.not_true, Bool.not_false, beq_self_eq_true, b_tf, b_ft, cells_agg, cells_int, cells_bool, cells_str, cells_ptr, cells_slice, cells_map, Nat.zero_add, Nat.add_zero, and_self, and_true, true_and, List.getElem?_set, R.len]; rfl, q4, joined_nodup R.nd, rfl, ⟨j, hj, by omega⟩, up4, new3⟩
  obtain ⟨cv, m6, c1, c2, c3, c4⟩ := qall_ok R2.box (by have := R2.ln; omega)
  have hlen6 := c2.len
  rw [R2.ln] at hlen6
  refine ⟨m6, ?_⟩
  rw [eq8]
  simp -implicitDefEqProofs only [fn8, X_seq, X_region, X_cond, X_block, Exec_ret, Exec_skip, Exec_exit, X_cons, X_nil, opsK_some, guardK_true, guardK_false, wanted_none, wanted_some, stepOp, AOp.run, aval, avals, avalO, aparts, plain, putT, runBox, runBuildSlice, List.length_cons, List.length_nil, List.cons_append, List.nil_append, List.replicate_succ, List.replicate_zero, List.length_replicate, Nat.reduceAdd, Nat.reduceSub, Nat.reduceMul, Nat.reduceLT, Nat.reduceLeDiff, Nat.reduceEqDiff, if_true, if_false, reduceIte, Bool.false_eq_true, Bool.true_eq_false, Option.bind_some, Option.map_some, Option.getD_some, List.set_cons_succ, List.set_cons_zero, List.getElem?_cons_succ, List.getElem?_cons_zero, List.length_set, List.getElem?_toArray, runEqNil, nilKind, bothNil, thenC_normal, thenC_ret, thenC_exit, condK_true, condK_false, mapN_some, mapB_normal, mapB_ret, mapB_exit, leave_ret, leave_normal, resVs, resV, oneOf, Option.isNone_none, Option.isNone_some, runNilck, runFieldAddr, asPtr, runUn, asB, capsOf, Bool.not_true, Bool.not_false, beq_self_eq_true, b_tf, b_ft, cells_agg, cells_int, cells_bool, cells_str, cells_ptr, cells_slice, cells_map, Nat.zero_add, Nat.add_zero, and_self, and_true, true_and, eq22, n1, h1, List.getElem?_set, R.len, R.t2, R.t7, j1, a1, hlen, h2, R2.len, R2.t7, R2.t9, c1, hlen6, arith, iop, beq_self_eq_true]

end Go.Fx.Try
