/- Inbox: Take. -/
import Derived.Test.YtbihanbnnhipjaaInboxB
namespace Go.Fx.Try
open Go Go.Fx
set_option linter.unusedSimpArgs false
set_option linter.unusedVariables false

theorem verd_cases (taken : List Msg) (a : Msg) : verd taken a = 1 ∨ verd taken a = 2 ∨ verd taken a = 3 ∨ verd taken a = 4 ∨ verd taken a = 5 := by
  unfold verd; repeat' split
  all_goals simp

theorem cnts_get (hist : List Nat) {v : Nat} (hv : v ≤ 5) (sv : Value) : (sv :: cnts hist)[1 + v]? = some (.int .i64 (hist.count v)) := by
  rcases (by omega : v = 0 ∨ v = 1 ∨ v = 2 ∨ v = 3 ∨ v = 4 ∨ v = 5) with rfl | rfl | rfl | rfl | rfl | rfl <;> rfl
theorem cnts_set (hist : List Nat) {v : Nat} (hv : v ≤ 5) (sv : Value) : (sv :: cnts hist).set (1 + v) (.int .i64 ((hist.count v : Int) + 1)) = sv :: cnts (hist ++ [v]) := by
  rcases (by omega : v = 0 ∨ v = 1 ∨ v = 2 ∨ v = 3 ∨ v = 4 ∨ v = 5) with rfl | rfl | rfl | rfl | rfl | rfl <;> simp [cnts, List.count_append, List.count_cons]

def took (taken : List Msg) (a : Msg) : List Msg := if verd taken a = 1 then taken ++ [a] else taken

theorem take_ok {m : Mem} {p : Value} {B : List Nat} {taken : List Msg} {hist : List Nat} (a : Msg) (h : BoxAt m p B taken hist) (hn : taken.length ≤ 2 ^ 20) (hh : hist.length ≤ 2 ^ 20) :
    ∃ m' B', Call S tab 16 [p, a.agg] m = some (.int .i64 (verd taken a), m') ∧ BoxAt m' p B' (took taken a) (hist ++ [verd taken a]) ∧ Upd B m m' ∧ ∀ b ∈ B', b ∈ B ∨ m.next ≤ b := by
  have hg1 : (m.add ⟨.cells (encMsg.cells a) 32, false, none⟩).get m.next = some ⟨.cells (encMsg.cells a) 32, false, none⟩ := Mem.get_add_self ..
  have hwh1 := load_whole (n := 6) hg1 rfl
  have hu1 : Upd [] m (m.add ⟨.cells (encMsg.cells a) 32, false, none⟩) := Upd.add _ _ _
  have hb1 := h.upd hu1 (fun b hb' => by simp)
  have hn1 : (m.add ⟨.cells (encMsg.cells a) 32, false, none⟩).next = m.next + 1 := rfl
  generalize hm1 : m.add ⟨.cells (encMsg.cells a) 32, false, none⟩ = m1 at *
  have hvd := verdict_ok a hb1 (by omega)
  have hu2 : Upd [] m1 (runBox 32 a.agg m1).2 := Upd.add _ _ _
  have hb2 := hb1.upd hu2 (fun b hb' => by simp)
  have hn2 : (runBox 32 a.agg m1).2.next = m.next + 2 := by show m1.next + 1 = _; omega
  have hg2 : (runBox 32 a.agg m1).2.get m.next = some ⟨.cells (encMsg.cells a) 32, false, none⟩ := by rw [hu2.same _ (by omega) (by simp)]; exact hg1
  generalize hm2 : (runBox 32 a.agg m1).2 = m2 at *
  obtain ⟨bx, sv, hp, hB, q1, q2, q3, q4⟩ := hb2
  have hBlt := h.lt
  subst hB
  subst hp
  have hbx : bx < m.next := hBlt bx (by simp)
  have hvle : verd taken a ≤ 5 := by have := verd_cases taken a; omega
  have hcount : hist.count (verd taken a) ≤ hist.length := List.count_le_length
  generalize hv : verd taken a = v at *
  have hidx : runIndexA 6 1 (.pointer (some ⟨bx, 0 + 1, none⟩)) (.int .i64 (v : Int)) = some (.pointer (some ⟨bx, 1 + v, none⟩)) := by
    have : (0 : Int) ≤ (v : Int) ∧ (v : Int) < ((6 : Nat) : Int) := by omega
    simp only [runIndexA, if_pos this]
    congr 4
    omega
  have hld := load_at (o := 1 + v) q3 (cnts_get hist hvle sv)
  have hw : IntKind.i64.wrap ((hist.count v : Int) + 1) = (hist.count v : Int) + 1 := wrap_in (by omega) (by omega)
  have hst := store_at (o := 1 + v) (v := .int .i64 ((hist.count v : Int) + 1)) q3 (by simp [cnts]; omega) rfl rfl
  rw [cnts_set hist hvle] at hst
  have hu3 : Upd [bx] m2 (m2.put bx ⟨.cells (sv :: cnts (hist ++ [v])) 75, false, none⟩) := Upd.put _ _ (by simp)
  have hn3 : (m2.put bx ⟨.cells (sv :: cnts (hist ++ [v])) 75, false, none⟩).next = m.next + 2 := hn2
  have q3' : (m2.put bx ⟨.cells (sv :: cnts (hist ++ [v])) 75, false, none⟩).get bx = some ⟨.cells (sv :: cnts (hist ++ [v])) 75, false, none⟩ := Mem.get_put_self ..
  have hg3 : (m2.put bx ⟨.cells (sv :: cnts (hist ++ [v])) 75, false, none⟩).get m.next = some ⟨.cells (encMsg.cells a) 32, false, none⟩ := by rw [hu3.same _ (by omega) (by simp; omega)]; exact hg2
  have q4' : TOwn encMsg 32 (m2.put bx ⟨.cells (sv :: cnts (hist ++ [v])) 75, false, none⟩) sv taken := q4.upd hu3 (fun b hb hb' => by simp at hb'; subst hb'; exact q2 hb)
  generalize hm3 : m2.put bx ⟨.cells (sv :: cnts (hist ++ [v])) 75, false, none⟩ = m3 at *
  have hu03 : Upd (bx :: blkOf sv) m m3 := ((hu1.trans hu2).mono (fun b hb => by simp at hb)).trans (hu3.mono (fun b hb _ => by simp at hb; simp [hb]))
  by_cases h1 : v = 1
  · subst h1
    have hld3 := load_at (o := 0) q3' (v := sv) rfl
    have hwh3 := load_whole (n := 6) hg3 rfl
    have hu4 : Upd [] m3 (m3.add ⟨.cells (encMsg.cells a) 32, false, none⟩) := Upd.add _ _ _
    have hn4 : (m3.add ⟨.cells (encMsg.cells a) 32, false, none⟩).next = m.next + 3 := by show m3.next + 1 = _; omega
    have hg4 : (m3.add ⟨.cells (encMsg.cells a) 32, false, none⟩).get m3.next = some ⟨.cells (encMsg.cells a) 32, false, none⟩ := Mem.get_add_self ..
    have q34 : (m3.add ⟨.cells (encMsg.cells a) 32, false, none⟩).get bx = some ⟨.cells (sv :: cnts (hist ++ [1])) 75, false, none⟩ := by rw [hu4.same _ (by omega) (by simp)]; exact q3'
    have q44 := q4'.upd hu4 (fun b _ hb => by simp at hb)
    generalize hm4 : m3.add ⟨.cells (encMsg.cells a) 32, false, none⟩ = m4 at *
    have hld4 := load_at (o := 0) q34 (v := sv) rfl
    obtain ⟨sv', m5, ha1, ha2, ha3, ha4, ha5⟩ := q44.append (k := [a]) (eb := 56) (by simp) (by simp; omega) (by simp; omega)
    simp only [List.length_cons, List.length_nil, Nat.zero_add, encMsg.flat_one, esize] at ha1
    have q35 : m5.get bx = some ⟨.cells (sv :: cnts (hist ++ [1])) 75, false, none⟩ := by rw [ha3.same _ (by omega) q2]; exact q34
    have hcell : sv'.cells = #[sv'] := by obtain ⟨_, ⟨rfl, _⟩ | ⟨_, rfl, _⟩⟩ := ha2 <;> rfl
    have hcell1 : sv'.oneCell' = true := by obtain ⟨_, ⟨rfl, _⟩ | ⟨_, rfl, _⟩⟩ := ha2 <;> rfl
    have hst5 := store_at (o := 0) (v := sv') q35 (by simp) hcell hcell1
    have hset : (sv :: cnts (hist ++ [1])).set 0 sv' = sv' :: cnts (hist ++ [1]) := rfl
    rw [hset] at hst5
    have hsrc : runSrc 6 (.slice (some ⟨m3.next, 0, none⟩) 1 1) m4 = some (1, encMsg.cells a) := by simp [runSrc, cellsAt_of_get hg4, encMsg.len a, esize, List.take_of_length_le]
    have hfill : afill [.int .i64 0, .int .i64 0, .int .i64 0, .int .i64 0, .int .i64 0, .string ⟨#[]⟩] [(0, 6, a.agg)] = some (encMsg.cells a) := afill_one rfl rfl
    have b11 : (((1 : Nat) : Int) == 1) = true := rfl
    refine ⟨m5.put bx ⟨.cells (sv' :: cnts (hist ++ [1])) 75, false, none⟩, bx :: blkOf sv', ?_, ⟨bx, sv', rfl, rfl, ?_, ?_, Mem.get_put_self .., ?_⟩, ?_, ?_⟩
    · rw [eq16]
      simp -implicitDefEqProofs only [Msg.agg] at hvd hfill ⊢
      simp -implicitDefEqProofs only [fn16, X_seq, X_region, X_cond, X_block, Exec_ret, Exec_skip, Exec_exit, X_cons, X_nil, opsK_some, guardK_true, guardK_false, wanted_none, wanted_some, stepOp, AOp.run, aval, avals, avalO, aparts, plain, putT, runBox, runBuildSlice, List.length_cons, List.length_nil, List.cons_append, List.nil_append, List.replicate_succ, List.replicate_zero, List.length_replicate, Nat.reduceAdd, Nat.reduceSub, Nat.reduceMul, Nat.reduceLT, Nat.reduceLeDiff, Nat.reduceEqDiff, if_true, if_false, reduceIte, Bool.false_eq_true, Bool.true_eq_false, Option.bind_some, Option.map_some, Option.getD_some, List.set_cons_succ, List.set_cons_zero, List.getElem?_cons_succ, List.getElem?_cons_zero, List.length_set, runEqNil, nilKind, bothNil, thenC_normal, thenC_ret, thenC_exit, condK_true, condK_false, mapN_some, mapB_normal, mapB_ret, mapB_exit, leave_ret, leave_normal, resVs, resV, oneOf, Option.isNone_none, Option.isNone_some, runNilck, runFieldAddr, asPtr, runUn, asB, capsOf, Bool.not_true, Bool.not_false, beq_self_eq_true, b_tf, b_ft, cells_agg, cells_int, cells_bool, cells_str, cells_ptr, cells_slice, cells_map, Nat.zero_add, Nat.add_zero, and_self, and_true, true_and, hm1, hwh1, hvd, hidx, hld, hw, hst, hld3, hld4, hwh3, hm4, ha1, hst5, hsrc, hfill, arith, iop, b11, X_draw, D_start, D_nil, D_cons, drG_true, drG_false, drC_pure, drC_eff, drC_read, drN_pure, drN_read, drN_eff, drP_some, drE_some, drR_some, drV_some, AOp.cls, AOp.req, Req.run, okReq_at, okOne_some, okV_refl, okAt_zero, okAt_succ, List.all_cons, List.all_nil, Bool.and_true, Bool.and_self]
    · show bx < m5.next; omega
    · rw [ha5]; simp; omega
    · have ht : took taken a = taken ++ [a] := if_pos hv
      rw [ht]
      exact ha2.upd (Upd.put (fp := [bx]) m5 _ (by simp)) (fun b hb hb' => by rw [ha5] at hb; simp at hb hb'; omega)
    · refine hu03.trans_new ((hu4.mono (fun b hb => by simp at hb)).trans ((ha3.mono (gp := bx :: blkOf sv) (fun b hb _ => by simp [hb])).trans (Upd.put _ _ (by simp)))) (fun b hb => .inl hb)
    · intro b hb
      rw [ha5] at hb
      simp at hb
      rcases hb with rfl | rfl
      · exact .inl (by simp)
      · exact .inr (by omega)
  · have b1 : ((v : Int) == 1) = false := by simpa using (by omega : ¬ (v : Int) = 1)
    refine ⟨m3, bx :: blkOf sv, ?_, ⟨bx, sv, rfl, rfl, by omega, q2, q3', ?_⟩, hu03, fun b hb => .inl hb⟩
    · rw [eq16]
      simp -implicitDefEqProofs only [Msg.agg] at hvd ⊢
      simp -implicitDefEqProofs only [fn16, X_seq, X_region, X_cond, X_block, Exec_ret, Exec_skip, Exec_exit, X_cons, X_nil, opsK_some, guardK_true, guardK_false, wanted_none, wanted_some, stepOp, AOp.run, aval, avals, avalO, aparts, plain, putT, runBox, runBuildSlice, List.length_cons, List.length_nil, List.cons_append, List.nil_append, List.replicate_succ, List.replicate_zero, List.length_replicate, Nat.reduceAdd, Nat.reduceSub, Nat.reduceMul, Nat.reduceLT, Nat.reduceLeDiff, Nat.reduceEqDiff, if_true, if_false, reduceIte, Bool.false_eq_true, Bool.true_eq_false, Option.bind_some, Option.map_some, Option.getD_some, List.set_cons_succ, List.set_cons_zero, List.getElem?_cons_succ, List.getElem?_cons_zero, List.length_set, runEqNil, nilKind, bothNil, thenC_normal, thenC_ret, thenC_exit, condK_true, condK_false, mapN_some, mapB_normal, mapB_ret, mapB_exit, leave_ret, leave_normal, resVs, resV, oneOf, Option.isNone_none, Option.isNone_some, runNilck, runFieldAddr, asPtr, runUn, asB, capsOf, Bool.not_true, Bool.not_false, beq_self_eq_true, b_tf, b_ft, cells_agg, cells_int, cells_bool, cells_str, cells_ptr, cells_slice, cells_map, Nat.zero_add, Nat.add_zero, and_self, and_true, true_and, hm1, hwh1, hvd, hidx, hld, hw, hst, arith, iop, b1]
    · have ht : took taken a = taken := if_neg (by rw [hv]; exact h1)
      rw [ht]; exact q4'

end Go.Fx.Try
