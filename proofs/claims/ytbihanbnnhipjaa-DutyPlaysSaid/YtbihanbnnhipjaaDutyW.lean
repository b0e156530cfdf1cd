/- Numbers that came in. -/
import Derived.Test.YtbihanbnnhipjaaDutyE
namespace Go.Fx.Try
open Go Go.Fx

theorem int_of {m : Mem} {n : Nat} {cs : List Value} (h : WT Proofs.Try.prog m (n + 1) 3 cs) : ∃ a : Int, cs = encI.cells a ∧ True := by
  obtain ⟨x, rfl, _⟩ := WT.int (k := .i64) (by kernel_rfl) h
  exact ⟨x, rfl, trivial⟩

theorem ints_of {m : Mem} {n : Nat} {v : Value} (hok : okT Proofs.Try.prog (n + 1) 3 = true) (h : WT Proofs.Try.prog m (n + 2) 52 v.cells.toList) (hna : ∀ xs, v ≠ .agg xs) :
    ∃ l : List Int, TSl encI m v l ∧ (l.length ≤ maxLen ∧ l.length * 8 ≤ reachBytes) ∧ ∀ b ∈ blkOf v, b < m.next := by
  obtain ⟨l, h1, h2, h3, _⟩ := WT.tslice encI (e := 3) (p := fun _ => True) (by kernel_rfl) (by kernel_rfl) (by decide) hok (fun cs h => int_of h) h hna
  rw [show Proofs.Try.prog.bytesOf 3 = 8 by kernel_rfl] at h2
  exact ⟨l, h1, h2, h3⟩

end Go.Fx.Try
