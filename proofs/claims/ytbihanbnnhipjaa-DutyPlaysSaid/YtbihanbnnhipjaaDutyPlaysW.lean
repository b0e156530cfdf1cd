/- Duty: a script that came in. -/
import Derived.Test.YtbihanbnnhipjaaDutyPlaysA
namespace Go.Fx.Try
open Go Go.Fx

theorem dop_of {m : Mem} {cs : List Value} (h : WT Proofs.Try.prog m 4 54 cs) : ∃ o : DOp, cs = encD.cells o ∧ ∃ F : List Int, TSl encI m o.f.v F ∧ F.length ≤ 2 ^ 58 ∧ ∀ b ∈ blkOf o.f.v, b < m.next := by
  obtain ⟨p0, r0, rfl, w0, p1, r1, rfl, w1, p2, r2, rfl, w2, hr⟩ := WT.structT (ts := [3, 3, 52]) (by kernel_rfl) h
  have hr : r2 = [] := hr
  subst hr
  obtain ⟨k, rfl, _⟩ := WT.int (k := .i64) (by kernel_rfl) w0
  obtain ⟨i, rfl, _⟩ := WT.int (k := .i64) (by kernel_rfl) w1
  obtain ⟨s, rfl, F, h1, h2, h3⟩ := sv_of w2
  refine ⟨⟨k, i, s⟩, rfl, F, h1, ?_, h3⟩
  have : reachBytes ≤ 2 ^ 58 := by decide
  omega

end Go.Fx.Try
