/- What is written is read again. -/
import Derived.Test.YtgmkehbebpljjaaDoorTextQ
namespace Go.Fx.Tryd
open Go Go.Fx
set_option linter.unusedSimpArgs false
set_option linter.unusedVariables false

abbrev eqIn : EqD := .st [(0, (1, (false, (.sc .int)))), (1, (1, (false, (.sc .int)))), (2, (1, (false, (.sc .int)))), (3, (1, (false, (.sc .int)))), (4, (3, (true, (.st [(0, (1, (false, (.sc .int)))), (1, (1, (false, (.sc .int)))), (2, (1, (false, (.sc .string))))]))))]
theorem eq_in (i : In) : runEq true eqIn (.agg (encIn.cells i).toArray) (.agg (encIn.cells i).toArray) = some (.bool false) := by
  have hs : ((⟨i.s.toArray⟩ : ByteArray) == ⟨i.s.toArray⟩) = true := by
    have : ((⟨i.s.toArray⟩ : ByteArray) == ⟨i.s.toArray⟩) = (i.s.toArray == i.s.toArray) := rfl
    rw [this]; simp
  simp [runEq, eqIn, encIn, aeqD, aeqFs, partOf, aeq1, hs]

theorem same_loop {L : List In} {v w : Value} {m : Mem} (hn : L.length ≤ 2 ^ 40) (hv : TSl encIn m v L) (hw : TSl encIn m w L) : ∀ (d i : Nat), i + d = L.length → P9_0 v w (.int .i64 (i : Int)) m = some (.bool true, m) := by
  intro d
  induction d with
  | zero =>
    intro i hd
    obtain rfl : i = L.length := by omega
    rw [P9_0_eq]
    simp -implicitDefEqProofs only [Option.bind_some, W_some, W_nw, W_nws, W_nwAt, newVal, cnd_true, cnd_false, gdo_tt, gdo_ff, gdo_tf, gdo_ft, gdo_u, ar_lss, ar_leq, ar_gtr, ar_geq, ar_eql, ar_neq, asB_b, un_not, un_notd, max_i, min_i, Bool.not_true, Bool.not_false, decide_true, decide_false, decide_not, reduceIte, if_true, if_false, Bool.false_eq_true, not_true_eq_false, not_false_eq_true, Bool.true_eq_false, hv.len, Int.lt_irrefl]
  | succ d ih =>
    intro i hd
    have hi : i < L.length := by omega
    have hlt : (i : Int) < (L.length : Int) := by omega
    have hx : L[i]? = some L[i] := List.getElem?_eq_getElem hi
    generalize L[i] = x at hx
    obtain ⟨b, off, p1, p2⟩ := hv.at .i64 hx
    obtain ⟨b', off', q1, q2⟩ := hw.at .i64 hx
    have p1 : runIndexS 7 v (.int .i64 (i : Int)) = _ := p1
    have q1 : runIndexS 7 w (.int .i64 (i : Int)) = _ := q1
    have p2 : runLoadN 7 (.pointer (some ⟨b, off, none⟩)) m = _ := (p2 m hv).1
    have q2 : runLoadN 7 (.pointer (some ⟨b', off', none⟩)) m = _ := (q2 m hw).1
    have e := eq_in x
    rw [P9_0_eq]
    simp -implicitDefEqProofs only [Option.bind_some, W_some, W_nw, W_nws, W_nwAt, newVal, cnd_true, cnd_false, gdo_tt, gdo_ff, gdo_tf, gdo_ft, gdo_u, ar_lss, ar_leq, ar_gtr, ar_geq, ar_eql, ar_neq, asB_b, un_not, un_notd, max_i, min_i, Bool.not_true, Bool.not_false, decide_true, decide_false, decide_not, reduceIte, if_true, if_false, Bool.false_eq_true, not_true_eq_false, not_false_eq_true, Bool.true_eq_false, hv.len, hlt, p1, q1, p2, q2, e, i64_succ (show i < 2 ^ 62 by omega)]
    exact ih (i + 1) (by omega)
theorem same_ok {L : List In} {v w : Value} {m : Mem} (hn : L.length ≤ 2 ^ 40) (hv : TSl encIn m v L) (hw : TSl encIn m w L) : Call S1 tab 9 [v, w] m = some (.bool true, m) := by
  rw [C9]
  simp -implicitDefEqProofs only [Option.bind_some, W_some, W_nw, W_nws, W_nwAt, newVal, cnd_true, cnd_false, gdo_tt, gdo_ff, gdo_tf, gdo_ft, gdo_u, ar_lss, ar_leq, ar_gtr, ar_geq, ar_eql, ar_neq, asB_b, un_not, un_notd, max_i, min_i, Bool.not_true, Bool.not_false, decide_true, decide_false, decide_not, reduceIte, if_true, if_false, Bool.false_eq_true, not_true_eq_false, not_false_eq_true, Bool.true_eq_false, hv.len, hw.len]
  exact same_loop hn hv hw L.length 0 (by omega)

theorem backLaw {L : List In} {sv : Value} {m : Mem} (hok : ∀ x ∈ L, x.Ok) (hlen : L.length ≤ 2 ^ 40) (hT : TSl encIn m sv L) (hb : ∀ b ∈ blkOf sv, b < m.next) (hg : Globs m) :
    W (Call S tab 3 [sv] m) fun r m' => r = .bool true := by
  have keep : ∀ {m'}, Upd [] m m' → TSl encIn m' sv L := fun hu => hT.upd hu (fun b hh => ⟨hb b hh, by simp⟩)
  rw [C3]
  refine W.bind (lives_ok hg) fun r m1 ⟨hr, hu1⟩ => ?_
  subst hr
  simp -implicitDefEqProofs only [Option.bind_some, W_some, W_nw, W_nws, W_nwAt, newVal, cnd_true, cnd_false, gdo_tt, gdo_ff, gdo_tf, gdo_ft, gdo_u, ar_lss, ar_leq, ar_gtr, ar_geq, ar_eql, ar_neq, asB_b, un_not, un_notd, max_i, min_i, Bool.not_true, Bool.not_false, decide_true, decide_false, decide_not, reduceIte, if_true, if_false, Bool.false_eq_true, not_true_eq_false, not_false_eq_true, Bool.true_eq_false]
  refine W.bind (up (write_ok hok hlen (keep hu1) (fun b hh => Nat.lt_of_lt_of_le (hb b hh) hu1.next) (hg.upd0 hu1))) fun r m2 ⟨hr, hu2⟩ => ?_
  subst hr
  have hu12 := hu1.then0 hu2
  have f0 : runExtract 0 (.tuple #[str (textP L), .int .i64 (codeErr L)]) = some (str (textP L)) := rfl
  have f1 : runExtract 1 (.tuple #[str (textP L), .int .i64 (codeErr L)]) = some (.int .i64 (codeErr L)) := rfl
  by_cases h0 : codeErr L = 0
  · have ht : textP L = linesP L := by unfold textP; rw [if_pos h0]
    obtain ⟨hL, hright⟩ := code_all h0
    have hsz := lines_short (L := L) (fun i hi => ⟨hok i hi, hright i hi⟩)
    rw [h0, ht] at f0 f1
    simp -implicitDefEqProofs only [Option.bind_some, W_some, W_nw, W_nws, W_nwAt, newVal, cnd_true, cnd_false, gdo_tt, gdo_ff, gdo_tf, gdo_ft, gdo_u, ar_lss, ar_leq, ar_gtr, ar_geq, ar_eql, ar_neq, asB_b, un_not, un_notd, max_i, min_i, Bool.not_true, Bool.not_false, decide_true, decide_false, decide_not, reduceIte, if_true, if_false, Bool.false_eq_true, not_true_eq_false, not_false_eq_true, Bool.true_eq_false, h0, ht, f0, f1]
    refine W.bind (read_ok (s := linesP L) (by omega) (hg.upd0 hu12)) fun r m3 ⟨v, hr, hv, hu3, hvb⟩ => ?_
    subst hr
    rw [read_back hok h0] at hv ⊢
    have e0 : runExtract 0 (.tuple #[v, .int .i64 ((0 : Nat) : Int), .int .i64 0]) = some v := rfl
    have e1 : runExtract 1 (.tuple #[v, .int .i64 ((0 : Nat) : Int), .int .i64 0]) = some (.int .i64 0) := rfl
    have e2 : runExtract 2 (.tuple #[v, .int .i64 ((0 : Nat) : Int), .int .i64 0]) = some (.int .i64 0) := rfl
    refine W.bindO e0 (W.bindO e1 (W.bindO e2 ?_))
    have hs : Call S tab 9 [v, sv] m3 = some (.bool true, m3) := S_le _ _ _ _ (same_ok hlen hv.tsl (keep (hu12.then0 hu3)))
    simp -implicitDefEqProofs only [Option.bind_some, W_some, W_nw, W_nws, W_nwAt, newVal, cnd_true, cnd_false, gdo_tt, gdo_ff, gdo_tf, gdo_ft, gdo_u, ar_lss, ar_leq, ar_gtr, ar_geq, ar_eql, ar_neq, asB_b, un_not, un_notd, max_i, min_i, Bool.not_true, Bool.not_false, decide_true, decide_false, decide_not, reduceIte, if_true, if_false, Bool.false_eq_true, not_true_eq_false, not_false_eq_true, Bool.true_eq_false, hs]
  · have ht : textP L = [] := by unfold textP; rw [if_neg h0]
    have q : arith .eql (str []) (.string ⟨#[]⟩) = some (.bool true) := by rw [show (Value.string ⟨#[]⟩) = str [] from rfl, eql_str]; simp
    rw [ht] at f0 f1
    simp -implicitDefEqProofs only [Option.bind_some, W_some, W_nw, W_nws, W_nwAt, newVal, cnd_true, cnd_false, gdo_tt, gdo_ff, gdo_tf, gdo_ft, gdo_u, ar_lss, ar_leq, ar_gtr, ar_geq, ar_eql, ar_neq, asB_b, un_not, un_notd, max_i, min_i, Bool.not_true, Bool.not_false, decide_true, decide_false, decide_not, reduceIte, if_true, if_false, Bool.false_eq_true, not_true_eq_false, not_false_eq_true, Bool.true_eq_false, ht, f0, f1, h0, q]
end Go.Fx.Tryd
