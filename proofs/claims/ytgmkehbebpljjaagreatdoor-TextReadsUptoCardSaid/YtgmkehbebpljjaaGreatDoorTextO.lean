/- Programs that came in. -/
import Derived.Test.YtgmkehbebpljjaaGreatDoorTextN
import Derived.Test.YtgmkehbebpljjaaGreatDoorBulk
namespace Go.Fx.Tryz
open Go Go.Fx
set_option linter.unusedSimpArgs false
set_option linter.unusedVariables false

theorem i64_of {x : Int} (h : (Lit.int .i64 x).wf = true) : I64 x := by
  have : -9223372036854775808 ≤ x ∧ x ≤ 9223372036854775807 := by simpa [Lit.wf, IntKind.min, IntKind.max, IntKind.signed, IntKind.bits] using h
  exact this
def bigB : Nat := 67108864
theorem bigB_eq : bigB = 67108864 := rfl
set_option maxRecDepth 100000 in
theorem inst_of {m : Mem} {cs : List Value} (h : WTB Proofs.Tryz.prog bigB m 3 37 cs) : ∃ a : In, cs = encIn.cells a ∧ a.Ok := by
  obtain ⟨p1, r1, rfl, h1, p2, r2, rfl, h2, p3, r3, rfl, h3, p4, r4, rfl, h4, p5, r5, rfl, h5, rfl⟩ := WT.structT (ts := [3, 3, 3, 3, 35]) (by kernel_rfl) h
  obtain ⟨x1, rfl, w1⟩ := WT.int (k := .i64) (by kernel_rfl) h1
  obtain ⟨x2, rfl, w2⟩ := WT.int (k := .i64) (by kernel_rfl) h2
  obtain ⟨x3, rfl, w3⟩ := WT.int (k := .i64) (by kernel_rfl) h3
  obtain ⟨x4, rfl, w4⟩ := WT.int (k := .i64) (by kernel_rfl) h4
  obtain ⟨q1, s1, rfl, g1, q2, s2, rfl, g2, q3, s3, rfl, g3, rfl⟩ := WT.structT (ts := [33, 2, 9]) (by kernel_rfl) h5
  obtain ⟨y1, rfl, v1⟩ := WT.int (k := .i64) (by kernel_rfl) g1
  obtain ⟨y2, rfl, v2⟩ := WT.int (k := .i64) (by kernel_rfl) g2
  obtain ⟨y3, rfl, v3⟩ := WT.string (by kernel_rfl) g3
  refine ⟨⟨x1, x2, x3, x4, y1, y2, y3.data.toList⟩, ?_, ⟨i64_of w1, i64_of w2, i64_of w3, i64_of w4, i64_of v1, i64_of v2, ?_⟩⟩
  · rw [str_eta]; rfl
  · have : y3.data.toList.length = y3.size := Array.length_toList
    have hB := bigB_eq
    show y3.data.toList.length ≤ 67108864
    omega
set_option maxRecDepth 100000 in
theorem insts_of {m : Mem} {v : Value} (h : WTB Proofs.Tryz.prog bigB m 4 22 v.cells.toList) (hna : aggT Proofs.Tryz.prog 22 = some false → ∀ xs, v ≠ .agg xs) :
    ∃ L : List In, TSl encIn m v L ∧ L.length ≤ 2 ^ 40 ∧ (∀ b ∈ blkOf v, b < m.next) ∧ ∀ a ∈ L, a.Ok := by
  obtain ⟨l, h1, h2, h3, h4⟩ := WT.tslice encIn (e := 37) (by kernel_rfl) (by kernel_rfl) (by decide) (by kernel_rfl) (fun cs h => inst_of h) h (hna (by kernel_rfl))
  have hb : Proofs.Tryz.prog.bytesOf 37 = 64 := by kernel_rfl
  refine ⟨l, h1, ?_, h3, h4⟩
  have := h2.2
  rw [hb] at this
  have hB := bigB_eq
  omega

end Go.Fx.Tryz
