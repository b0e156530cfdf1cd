/- Messages that came in. -/
import Derived.Test.YtbihanbnnhipjaaInboxD
namespace Go.Fx.Try
open Go Go.Fx

theorem msg_of {m : Mem} {cs : List Value} (h : WT Proofs.Try.prog m 3 32 cs) : ∃ a : Msg, cs = encMsg.cells a ∧ True := by
  obtain ⟨p1, r1, rfl, h1, p2, r2, rfl, h2, p3, r3, rfl, h3, p4, r4, rfl, h4, rfl⟩ := WT.structT (ts := [3, 3, 3, 30]) (by kernel_rfl) h
  obtain ⟨x1, rfl, _⟩ := WT.int (k := .i64) (by kernel_rfl) h1
  obtain ⟨x2, rfl, _⟩ := WT.int (k := .i64) (by kernel_rfl) h2
  obtain ⟨x3, rfl, _⟩ := WT.int (k := .i64) (by kernel_rfl) h3
  obtain ⟨q1, s1, rfl, g1, q2, s2, rfl, g2, q3, s3, rfl, g3, rfl⟩ := WT.structT (ts := [28, 2, 9]) (by kernel_rfl) h4
  obtain ⟨y1, rfl, _⟩ := WT.int (k := .i64) (by kernel_rfl) g1
  obtain ⟨y2, rfl, _⟩ := WT.int (k := .i64) (by kernel_rfl) g2
  obtain ⟨y3, rfl, _⟩ := WT.string (by kernel_rfl) g3
  exact ⟨⟨x1, x2, x3, y1, y2, y3⟩, rfl, trivial⟩

theorem msgs_of {m : Mem} {v : Value} (h : WT Proofs.Try.prog m 4 22 v.cells.toList) (hna : aggT Proofs.Try.prog 22 = some false → ∀ xs, v ≠ .agg xs) :
    ∃ l : List Msg, TSl encMsg m v l ∧ l.length ≤ maxLen ∧ ∀ b ∈ blkOf v, b < m.next := by
  obtain ⟨l, h1, h2, h3, _⟩ := WT.tslice encMsg (e := 32) (p := fun _ => True) (by kernel_rfl) (by kernel_rfl) (by decide) (by kernel_rfl) (fun cs h => msg_of h) h (hna (by kernel_rfl))
  exact ⟨l, h1, h2, h3⟩

end Go.Fx.Try
