/- Rows of numbers that came in. -/
import Derived.Test.YtbihanbnnhipjaaDutyFairA
namespace Go.Fx.Try
open Go Go.Fx

theorem sv_of {m : Mem} {cs : List Value} (h : WT Proofs.Try.prog m 3 52 cs) : ∃ s : SV, cs = encSV.cells s ∧ ∃ F : List Int, TSl encI m s.v F ∧ F.length * 8 ≤ reachBytes ∧ ∀ b ∈ blkOf s.v, b < m.next := by
  have hs : ∃ s : SV, cs = [s.v] := by
    have h' := h
    unfold WT at h'
    rw [show Proofs.Try.prog.underlying 52 = some (.slice 3) by kernel_rfl] at h'
    rcases h' with h' | ⟨b, off, h', _⟩ | ⟨b, len, cap, c, e', h', _⟩
    · exact ⟨⟨none, 0, 0⟩, h'⟩
    · exact ⟨⟨some ⟨b, off, none⟩, 0, 0⟩, h'⟩
    · exact ⟨⟨some ⟨b, 0, none⟩, len, cap⟩, h'⟩
  obtain ⟨s, rfl⟩ := hs
  obtain ⟨F, h1, h2, h3⟩ := ints_of (n := 1) (v := s.v) (by kernel_rfl) (by simpa [SV.v, Value.cells] using h) (by intro xs hx; cases hx)
  exact ⟨s, rfl, F, h1, h2.2, h3⟩

end Go.Fx.Try
