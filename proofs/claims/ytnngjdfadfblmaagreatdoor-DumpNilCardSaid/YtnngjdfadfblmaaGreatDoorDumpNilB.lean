/- Dump: without a transaction there is nothing. -/
import Derived.Test.YtnngjdfadfblmaaGreatDoorDumpDec
import Derived.Test.YtnngjdfadfblmaaGreatDoorFxW
import Derived.Test.YtnngjdfadfblmaaGreatDoorFxStr
namespace Go.Fx.Tryz
open Go Go.Fx
set_option linter.unusedSimpArgs false
set_option linter.unusedVariables false

theorem nil_eq : runEqNil .ptr false (.pointer none) (.pointer none) = some (.bool true) := rfl
theorem may_nil (m : Mem) : Call S2 tab 127 [.pointer none] m = some (.int .i64 1, m) := by
  rw [C127, nil_eq]; rfl
theorem there_nil (x : Value) (m : Mem) : W (Call S2 tab 132 [.pointer none, x] m) fun v _ => v = .tuple #[.agg #[.int .i64 0, .int .i64 0], .int .i64 1] := by
  rw [C132]
  have e1 : decide ((1 : Int) = 0) = false := rfl
  have e2 : afill [.int .i64 0, .int .i64 0] [] = some [.int .i64 0, .int .i64 0] := rfl
  simp -implicitDefEqProofs only [Option.bind_some, W_some, W_nw, W_nws, W_nwAt, newVal, cnd_true, cnd_false, gdo_tt, gdo_ff, gdo_tf, gdo_ft, gdo_u, ar_lss, ar_leq, ar_gtr, ar_geq, ar_eql, ar_neq, asB_b, un_not, un_notd, max_i, min_i, Bool.not_true, Bool.not_false, decide_true, decide_false, decide_not, reduceIte, if_true, if_false, Bool.false_eq_true, not_true_eq_false, not_false_eq_true, Bool.true_eq_false, may_nil, e1, e2]
  refine W.bindO (store_whole (Mem.get_add_self ..) rfl rfl rfl) ?_
  refine W.bindO (load_whole (Mem.get_put_self ..) rfl) ?_
  exact W_some.2 rfl
theorem count_nil (x : Value) (m : Mem) : W (Call S2 tab 82 [.pointer none, x] m) fun v _ => v = .tuple #[.int .i64 0, .int .i64 1] := by
  rw [C82]
  refine (there_nil x m).bind fun v m1 hv => ?_
  subst hv
  have e1 : runExtract 0 (.tuple #[.agg #[.int .i64 0, .int .i64 0], .int .i64 1]) = some (.agg #[.int .i64 0, .int .i64 0]) := rfl
  have e2 : runExtract 1 (.tuple #[.agg #[.int .i64 0, .int .i64 0], .int .i64 1]) = some (.int .i64 1) := rfl
  simp -implicitDefEqProofs only [Option.bind_some, W_some, W_nw, W_nws, W_nwAt, newVal, cnd_true, cnd_false, gdo_tt, gdo_ff, gdo_tf, gdo_ft, gdo_u, ar_lss, ar_leq, ar_gtr, ar_geq, ar_eql, ar_neq, asB_b, un_not, un_notd, max_i, min_i, Bool.not_true, Bool.not_false, decide_true, decide_false, decide_not, reduceIte, if_true, if_false, Bool.false_eq_true, not_true_eq_false, not_false_eq_true, Bool.true_eq_false, e1, e2]
  refine W.bindO (store_whole (Mem.get_add_self ..) rfl rfl rfl) ?_
  refine W.bindO (show runFieldAddr 1 (.pointer (some ⟨m1.next, 0, none⟩)) = some (.pointer (some ⟨m1.next, 1, none⟩)) from rfl) ?_
  refine W.bindO (load_at (Mem.get_put_self ..) rfl) ?_
  exact W_some.2 rfl
theorem dmay_nil (m : Mem) : W (Call S2 tab 79 [.pointer none] m) fun v _ => v = .int .i64 1 := by
  rw [C79]
  refine (count_nil _ m).bind fun v m1 hv => ?_
  subst hv
  have e1 : runExtract 0 (.tuple #[.int .i64 0, .int .i64 1]) = some (.int .i64 0) := rfl
  have e2 : runExtract 1 (.tuple #[.int .i64 0, .int .i64 1]) = some (.int .i64 1) := rfl
  have e3 : decide ((1 : Int) = 7) = false := rfl
  simp -implicitDefEqProofs only [Option.bind_some, W_some, W_nw, W_nws, W_nwAt, newVal, cnd_true, cnd_false, gdo_tt, gdo_ff, gdo_tf, gdo_ft, gdo_u, ar_lss, ar_leq, ar_gtr, ar_geq, ar_eql, ar_neq, asB_b, un_not, un_notd, max_i, min_i, Bool.not_true, Bool.not_false, decide_true, decide_false, decide_not, reduceIte, if_true, if_false, Bool.false_eq_true, not_true_eq_false, not_false_eq_true, Bool.true_eq_false, e1, e2, e3]
theorem e10 : decide ((1 : Int) = 0) = false := rfl
theorem write_nil (m : Mem) : W (Call S2 tab 32 [.pointer none] m) fun v _ => v = .tuple #[.string ⟨#[]⟩, .int .i64 1] := by
  rw [C32]
  refine (dmay_nil m).bind fun v m1 hv => ?_
  subst hv
  simp -implicitDefEqProofs only [Option.bind_some, W_some, W_nw, W_nws, W_nwAt, newVal, cnd_true, cnd_false, gdo_tt, gdo_ff, gdo_tf, gdo_ft, gdo_u, ar_lss, ar_leq, ar_gtr, ar_geq, ar_eql, ar_neq, asB_b, un_not, un_notd, max_i, min_i, Bool.not_true, Bool.not_false, decide_true, decide_false, decide_not, reduceIte, if_true, if_false, Bool.false_eq_true, not_true_eq_false, not_false_eq_true, Bool.true_eq_false, e10]
theorem same_nil (x : Value) (m : Mem) : W (Call S2 tab 33 [.pointer none, x] m) fun v _ => v = .tuple #[.bool false, .int .i64 1] := by
  rw [C33]
  refine (write_nil m).bind fun v m1 hv => ?_
  subst hv
  have e1 : runExtract 0 (.tuple #[.string ⟨#[]⟩, .int .i64 1]) = some (.string ⟨#[]⟩) := rfl
  have e2 : runExtract 1 (.tuple #[.string ⟨#[]⟩, .int .i64 1]) = some (.int .i64 1) := rfl
  simp -implicitDefEqProofs only [Option.bind_some, W_some, W_nw, W_nws, W_nwAt, newVal, cnd_true, cnd_false, gdo_tt, gdo_ff, gdo_tf, gdo_ft, gdo_u, ar_lss, ar_leq, ar_gtr, ar_geq, ar_eql, ar_neq, asB_b, un_not, un_notd, max_i, min_i, Bool.not_true, Bool.not_false, decide_true, decide_false, decide_not, reduceIte, if_true, if_false, Bool.false_eq_true, not_true_eq_false, not_false_eq_true, Bool.true_eq_false, e1, e2, e10]
theorem size_nil (m : Mem) : W (Call S2 tab 34 [.pointer none] m) fun v _ => v = .tuple #[.int .i64 0, .int .i64 1] := by
  rw [C34]
  refine (dmay_nil m).bind fun v m1 hv => ?_
  subst hv
  simp -implicitDefEqProofs only [Option.bind_some, W_some, W_nw, W_nws, W_nwAt, newVal, cnd_true, cnd_false, gdo_tt, gdo_ff, gdo_tf, gdo_ft, gdo_u, ar_lss, ar_leq, ar_gtr, ar_geq, ar_eql, ar_neq, asB_b, un_not, un_notd, max_i, min_i, Bool.not_true, Bool.not_false, decide_true, decide_false, decide_not, reduceIte, if_true, if_false, Bool.false_eq_true, not_true_eq_false, not_false_eq_true, Bool.true_eq_false, e10]
theorem read_nil (x : Value) (m : Mem) : W (Call S2 tab 35 [.pointer none, x] m) fun v _ => v = .int .i64 1 := by
  rw [C35]
  refine (dmay_nil m).bind fun v m1 hv => ?_
  subst hv
  simp -implicitDefEqProofs only [Option.bind_some, W_some, W_nw, W_nws, W_nwAt, newVal, cnd_true, cnd_false, gdo_tt, gdo_ff, gdo_tf, gdo_ft, gdo_u, ar_lss, ar_leq, ar_gtr, ar_geq, ar_eql, ar_neq, asB_b, un_not, un_notd, max_i, min_i, Bool.not_true, Bool.not_false, decide_true, decide_false, decide_not, reduceIte, if_true, if_false, Bool.false_eq_true, not_true_eq_false, not_false_eq_true, Bool.true_eq_false, e10]
theorem dumpNil (x : Value) (m : Mem) : ∃ m', Call S2 tab 10 [x] m = some (.bool true, m') := by
  have key : W (Call S2 tab 10 [x] m) fun v _ => v = .bool true := by
    rw [C10, show Call S2 tab 31 [] m = some (.bool true, m) from Call_S rfl]
    simp -implicitDefEqProofs only [Option.bind_some, W_some, W_nw, W_nws, W_nwAt, newVal, cnd_true, cnd_false, gdo_tt, gdo_ff, gdo_tf, gdo_ft, gdo_u, ar_lss, ar_leq, ar_gtr, ar_geq, ar_eql, ar_neq, asB_b, un_not, un_notd, max_i, min_i, Bool.not_true, Bool.not_false, decide_true, decide_false, decide_not, reduceIte, if_true, if_false, Bool.false_eq_true, not_true_eq_false, not_false_eq_true, Bool.true_eq_false]
    refine (write_nil m).bind fun v m1 hv => ?_
    subst hv
    have a1 : runExtract 0 (.tuple #[.string ⟨#[]⟩, .int .i64 1]) = some (.string ⟨#[]⟩) := rfl
    have a2 : runExtract 1 (.tuple #[.string ⟨#[]⟩, .int .i64 1]) = some (.int .i64 1) := rfl
    simp -implicitDefEqProofs only [Option.bind_some, W_some, W_nw, W_nws, W_nwAt, newVal, cnd_true, cnd_false, gdo_tt, gdo_ff, gdo_tf, gdo_ft, gdo_u, ar_lss, ar_leq, ar_gtr, ar_geq, ar_eql, ar_neq, asB_b, un_not, un_notd, max_i, min_i, Bool.not_true, Bool.not_false, decide_true, decide_false, decide_not, reduceIte, if_true, if_false, Bool.false_eq_true, not_true_eq_false, not_false_eq_true, Bool.true_eq_false, a1, a2]
    refine (same_nil _ m1).bind fun v m2 hv => ?_
    subst hv
    have b1 : runExtract 0 (.tuple #[.bool false, .int .i64 1]) = some (.bool false) := rfl
    have b2 : runExtract 1 (.tuple #[.bool false, .int .i64 1]) = some (.int .i64 1) := rfl
    simp -implicitDefEqProofs only [Option.bind_some, W_some, W_nw, W_nws, W_nwAt, newVal, cnd_true, cnd_false, gdo_tt, gdo_ff, gdo_tf, gdo_ft, gdo_u, ar_lss, ar_leq, ar_gtr, ar_geq, ar_eql, ar_neq, asB_b, un_not, un_notd, max_i, min_i, Bool.not_true, Bool.not_false, decide_true, decide_false, decide_not, reduceIte, if_true, if_false, Bool.false_eq_true, not_true_eq_false, not_false_eq_true, Bool.true_eq_false, b1, b2]
    refine (size_nil m2).bind fun v m3 hv => ?_
    subst hv
    have c1 : runExtract 0 (.tuple #[.int .i64 0, .int .i64 1]) = some (.int .i64 0) := rfl
    have c2 : runExtract 1 (.tuple #[.int .i64 0, .int .i64 1]) = some (.int .i64 1) := rfl
    have c3 : arith .eql (.string ⟨#[]⟩) (.string ⟨#[]⟩) = some (.bool true) := by kernel_rfl
    have c4 : decide ((1 : Int) = 1) = true := rfl
    have c5 : decide ((0 : Int) = 0) = true := rfl
    simp -implicitDefEqProofs only [Option.bind_some, W_some, W_nw, W_nws, W_nwAt, newVal, cnd_true, cnd_false, gdo_tt, gdo_ff, gdo_tf, gdo_ft, gdo_u, ar_lss, ar_leq, ar_gtr, ar_geq, ar_eql, ar_neq, asB_b, un_not, un_notd, max_i, min_i, Bool.not_true, Bool.not_false, decide_true, decide_false, decide_not, reduceIte, if_true, if_false, Bool.false_eq_true, not_true_eq_false, not_false_eq_true, Bool.true_eq_false, c1, c2, c3, c4, c5]
    refine W_bind.2 ((read_nil x m3).bind fun v m4 hv => ?_)
    subst hv
    simp -implicitDefEqProofs only [Option.bind_some, W_some, W_nw, W_nws, W_nwAt, newVal, cnd_true, cnd_false, gdo_tt, gdo_ff, gdo_tf, gdo_ft, gdo_u, ar_lss, ar_leq, ar_gtr, ar_geq, ar_eql, ar_neq, asB_b, un_not, un_notd, max_i, min_i, Bool.not_true, Bool.not_false, decide_true, decide_false, decide_not, reduceIte, if_true, if_false, Bool.false_eq_true, not_true_eq_false, not_false_eq_true, Bool.true_eq_false, c4]
  obtain ⟨v, m', h, rfl⟩ := key
  exact ⟨m', h⟩
end Go.Fx.Tryz
