/- What has bytes has a text. -/
import Derived.Test.YtgmkehbebpljjaaDoorTextN
import Derived.Test.YtgmkehbebpljjaaDoorBulk
namespace Go.Fx.Tryd
open Go Go.Fx
set_option linter.unusedSimpArgs false
set_option linter.unusedVariables false

theorem i64_of {x : Int} (h : (Lit.int .i64 x).wf = true) : I64 x := by
  have : -9223372036854775808 ≤ x ∧ x ≤ 9223372036854775807 := by simpa [Lit.wf, IntKind.min, IntKind.max, IntKind.signed, IntKind.bits] using h
  exact this
def bigB : Nat := 67108864
theorem bigB_eq : bigB = 67108864 := rfl
set_option maxRecDepth 100000 in
theorem inst_of {m : Mem} {cs : List Value} (h : WTB Proofs.Tryd.prog bigB m 3 39 cs) : ∃ a : In, cs = encIn.cells a ∧ a.Ok := by
  obtain ⟨p1, r1, rfl, h1, p2, r2, rfl, h2, p3, r3, rfl, h3, p4, r4, rfl, h4, p5, r5, rfl, h5, rfl⟩ := WT.structT (ts := [3, 3, 3, 3, 37]) (by kernel_rfl) h
  obtain ⟨x1, rfl, w1⟩ := WT.int (k := .i64) (by kernel_rfl) h1
  obtain ⟨x2, rfl, w2⟩ := WT.int (k := .i64) (by kernel_rfl) h2
  obtain ⟨x3, rfl, w3⟩ := WT.int (k := .i64) (by kernel_rfl) h3
  obtain ⟨x4, rfl, w4⟩ := WT.int (k := .i64) (by kernel_rfl) h4
  obtain ⟨q1, s1, rfl, g1, q2, s2, rfl, g2, q3, s3, rfl, g3, rfl⟩ := WT.structT (ts := [35, 2, 9]) (by kernel_rfl) h5
  obtain ⟨y1, rfl, v1⟩ := WT.int (k := .i64) (by kernel_rfl) g1
  obtain ⟨y2, rfl, v2⟩ := WT.int (k := .i64) (by kernel_rfl) g2
  obtain ⟨y3, rfl, v3⟩ := WT.string (by kernel_rfl) g3
  refine ⟨⟨x1, x2, x3, x4, y1, y2, y3.data.toList⟩, ?_, ⟨i64_of w1, i64_of w2, i64_of w3, i64_of w4, i64_of v1, i64_of v2, ?_⟩⟩
  · rw [str_eta]; rfl
  · have : y3.data.toList.length = y3.size := Array.length_toList
    have hB := bigB_eq
    show y3.data.toList.length ≤ 67108864
    omega
set_option maxRecDepth 100000 in
theorem insts_of {m : Mem} {v : Value} (h : WTB Proofs.Tryd.prog bigB m 4 22 v.cells.toList) (hna : aggT Proofs.Tryd.prog 22 = some false → ∀ xs, v ≠ .agg xs) :
    ∃ L : List In, TSl encIn m v L ∧ L.length ≤ 2 ^ 40 ∧ (∀ b ∈ blkOf v, b < m.next) ∧ ∀ a ∈ L, a.Ok := by
  obtain ⟨l, h1, h2, h3, h4⟩ := WT.tslice encIn (e := 39) (by kernel_rfl) (by kernel_rfl) (by decide) (by kernel_rfl) (fun cs h => inst_of h) h (hna (by kernel_rfl))
  have hb : Proofs.Tryd.prog.bytesOf 39 = 64 := by kernel_rfl
  refine ⟨l, h1, ?_, h3, h4⟩
  have := h2.2
  rw [hb] at this
  have hB := bigB_eq
  omega

theorem codeLaw {L : List In} {sv : Value} {m : Mem} (hok : ∀ x ∈ L, x.Ok) (hlen : L.length ≤ 2 ^ 40) (hT : TSl encIn m sv L) (hb : ∀ b ∈ blkOf sv, b < m.next) (hg : Globs m) :
    W (Call S tab 5 [sv] m) fun r m' => r = .bool true := by
  have keep : ∀ {m'}, Upd [] m m' → TSl encIn m' sv L := fun hu => hT.upd hu (fun b hh => ⟨hb b hh, by simp⟩)
  rw [C5]
  refine W.bind (lives_ok hg) fun r m1 ⟨hr, hu1⟩ => ?_
  subst hr
  simp -implicitDefEqProofs only [Option.bind_some, W_some, W_nw, W_nws, W_nwAt, newVal, cnd_true, cnd_false, gdo_tt, gdo_ff, gdo_tf, gdo_ft, gdo_u, ar_lss, ar_leq, ar_gtr, ar_geq, ar_eql, ar_neq, asB_b, un_not, un_notd, max_i, min_i, Bool.not_true, Bool.not_false, decide_true, decide_false, decide_not, reduceIte, if_true, if_false, Bool.false_eq_true, not_true_eq_false, not_false_eq_true, Bool.true_eq_false]
  refine W.bind (up (code_ok hok hlen (keep hu1) (fun b hh => Nat.lt_of_lt_of_le (hb b hh) hu1.next) (hg.upd0 hu1))) fun r m2 ⟨⟨s, hr⟩, hu2⟩ => ?_
  subst hr
  have hu12 := hu1.then0 hu2
  have e0 : runExtract 0 (.tuple #[str s, .int .i64 (codeErr L)]) = some (str s) := rfl
  have e1 : runExtract 1 (.tuple #[str s, .int .i64 (codeErr L)]) = some (.int .i64 (codeErr L)) := rfl
  simp -implicitDefEqProofs only [Option.bind_some, W_some, W_nw, W_nws, W_nwAt, newVal, cnd_true, cnd_false, gdo_tt, gdo_ff, gdo_tf, gdo_ft, gdo_u, ar_lss, ar_leq, ar_gtr, ar_geq, ar_eql, ar_neq, asB_b, un_not, un_notd, max_i, min_i, Bool.not_true, Bool.not_false, decide_true, decide_false, decide_not, reduceIte, if_true, if_false, Bool.false_eq_true, not_true_eq_false, not_false_eq_true, Bool.true_eq_false, e0, e1]
  refine W.bind (up (write_ok hok hlen (keep hu12) (fun b hh => Nat.lt_of_lt_of_le (hb b hh) hu12.next) (hg.upd0 hu12))) fun r m3 ⟨hr, hu3⟩ => ?_
  subst hr
  have f0 : runExtract 0 (.tuple #[str (textP L), .int .i64 (codeErr L)]) = some (str (textP L)) := rfl
  have f1 : runExtract 1 (.tuple #[str (textP L), .int .i64 (codeErr L)]) = some (.int .i64 (codeErr L)) := rfl
  simp -implicitDefEqProofs only [Option.bind_some, W_some, W_nw, W_nws, W_nwAt, newVal, cnd_true, cnd_false, gdo_tt, gdo_ff, gdo_tf, gdo_ft, gdo_u, ar_lss, ar_leq, ar_gtr, ar_geq, ar_eql, ar_neq, asB_b, un_not, un_notd, max_i, min_i, Bool.not_true, Bool.not_false, decide_true, decide_false, decide_not, reduceIte, if_true, if_false, Bool.false_eq_true, not_true_eq_false, not_false_eq_true, Bool.true_eq_false, f0, f1]
end Go.Fx.Tryd
