/- An append in place: the block is taken over under a new name, its elder name is gone. -/
import Derived.Test.YtnngjdfadfblmaaGreatDoorFxPrim
namespace Go.Fx
open Go
set_option linter.unusedSimpArgs false
set_option linter.unusedVariables false

theorem run_storeCells {P : Program} {B : Nat} {e : TypeId} {fz : Nat × Nat} : ∀ (vs : List Value) (o i : Nat) (C : Array Value) (w : World), w.heap[B]? = some (.cells C e fz) → Warm C.size fz →
    (∀ v ∈ vs, v.oneCell' = true) → o + i + vs.length ≤ C.size →
    ∃ w' C', (Go.storeCells ⟨B, o, none⟩ vs i).run P w = .ok () w' ∧ w'.heap[B]? = some (.cells C' e fz) ∧ C'.size = C.size ∧
      (∀ j, C'[j]? = if o + i ≤ j ∧ j < o + i + vs.length then vs[j - (o + i)]? else C[j]?) ∧ (∀ D, D ≠ B → w'.heap[D]? = w.heap[D]?) ∧ w'.heap.size = w.heap.size ∧
      w'.os = w.os ∧ w'.output = w.output ∧ w'.tape = w.tape := by
  intro vs
  induction vs with
  | nil =>
    intro o i C w h _ _ _
    exact ⟨w, C, by simp [Go.storeCells], h, rfl, fun j => by rw [if_neg (by simp only [List.length_nil]; omega)], fun _ _ => rfl, rfl, rfl, rfl, rfl⟩
  | cons v r ih =>
    intro o i C w h hw h1 hlen
    simp only [List.length_cons] at hlen
    have hcell : w.cell? ⟨B, o + i, none⟩ = some (C[o + i]'(by omega)) := by rw [cell?_of_heap h]; exact Array.getElem?_eq_getElem (by omega)
    have hf := frozen?_of_heap h hw (i := o + i) (by omega)
    have h2 := heap_setCell w B (o + i) v h
    obtain ⟨w', C', hrun, hh, hs, hc, ho, hz, q1, q2, q3⟩ := ih o (i + 1) (C.setIfInBounds (o + i) v) _ h2 (by rw [Array.size_setIfInBounds]; exact hw) (fun x hx => h1 x (List.mem_cons_of_mem _ hx)) (by rw [Array.size_setIfInBounds]; omega)
    refine ⟨w', C', ?_, hh, by rw [hs, Array.size_setIfInBounds], fun j => ?_, fun D hD => by rw [ho D hD, getElem?_setCell_heap _ _ _ _ hD], by rw [hz, size_setCell], by rw [q1]; rfl, by rw [q2]; rfl, by rw [q3]; rfl⟩
    · simp only [Go.storeCells, Sem.run_bind, add_mk]
      rw [run_store _ _ _ _ _ (h1 v (List.mem_cons_self ..)), hcell, hf]
      simpa using hrun
    · rw [hc j]
      by_cases g1 : o + (i + 1) ≤ j ∧ j < o + (i + 1) + r.length
      · rw [if_pos g1, if_pos (by simp only [List.length_cons]; omega)]
        obtain ⟨d, rfl⟩ : ∃ d, j = o + (i + 1) + d := ⟨j - (o + (i + 1)), by omega⟩
        rw [show o + (i + 1) + d - (o + (i + 1)) = d by omega, show o + (i + 1) + d - (o + i) = d + 1 by omega]
        simp
      · rw [if_neg g1]
        by_cases g2 : j = o + i
        · subst g2
          rw [if_pos (by simp only [List.length_cons]; omega), Array.getElem?_setIfInBounds_self]
          rw [if_pos (show o + i < C.size by omega)]
          simp
        · rw [if_neg (by simp only [List.length_cons]; omega), Array.getElem?_setIfInBounds_ne (by omega)]

theorem Inv.appendIn {φ : Ren} {P : Program} {m : Mem} {w : World} (h : Inv φ m w) {b : Nat} {c : List Value} {e : TypeId} {s : Nat} {l : Loc}
    (hb : m.get b = some ⟨.cells c e, false, some s⟩) (hl : φ b = some l) {off len cap off' cap' n : Nat} (hoff : cap ≠ 0 → off' = l.base + off) (hlen : len ≤ cap)
    (hroom : off' + cap' * s ≤ l.size) (hneed : len + n ≤ cap') (hc : off + len * s ≤ c.length) {vs Vs : List Value} (hvs : VRs φ vs Vs) (h1 : ∀ v ∈ vs, v.oneCell' = true) (hn : vs.length = n * s) :
    ∃ w' φ', (Go.storeCells ⟨l.blk, off' + len * s, none⟩ Vs).run P w = .ok () w' ∧ Inv φ' ((m.kill b).add ⟨.cells ((c.drop off).take (len * s) ++ vs) e, false, some s⟩) w' ∧
      Frm φ m w φ' ((m.kill b).add ⟨.cells ((c.drop off).take (len * s) ++ vs) e, false, some s⟩) w' ∧ φ' m.next = some ⟨l.blk, off', some s, l.size⟩ := by
  obtain ⟨k, hk, hloose, C, e', fz, hh, hcc, hw, hz, hsz, hee⟩ := h.live b _ hb
  rw [hl] at hk; cases hk
  have hCs : C.size = l.size := hsz s rfl
  have hmul : (len + n) * s ≤ cap' * s := Nat.mul_le_mul_right s hneed
  rw [Nat.add_mul] at hmul
  have hVn : Vs.length = n * s := by rw [← hvs.1]; exact hn
  have h1' : ∀ v ∈ Vs, v.oneCell' = true := by
    intro V hV
    obtain ⟨i, hi, rfl⟩ := List.mem_iff_getElem.1 hV
    have hi' : i < vs.length := by rw [hvs.1]; exact hi
    rw [(hvs.2 i vs[i] Vs[i] (List.getElem?_eq_getElem hi') (List.getElem?_eq_getElem hi)).one]
    exact h1 _ (List.getElem_mem hi')
  obtain ⟨w', C', hrun, hh', hs', hc', ho, hz', q1, q2, q3⟩ := run_storeCells (P := P) (B := l.blk) (e := e') (fz := fz) Vs (off' + len * s) 0 C w hh (hw rfl) h1' (by omega)
  simp only [Nat.add_zero] at hc'
  have hle := Ren.le_set (l := ⟨l.blk, off', some s, l.size⟩) h.fresh
  have hself := Ren.set_self φ m.next ⟨l.blk, off', some s, l.size⟩
  have hbn : b ≠ m.next := by have := (h.below b l hl).1; omega
  have hget : ∀ d x, ((m.kill b).add ⟨.cells ((c.drop off).take (len * s) ++ vs) e, false, some s⟩).get d = some x →
      (d = m.next ∧ x = ⟨.cells ((c.drop off).take (len * s) ++ vs) e, false, some s⟩) ∨ (d ≠ m.next ∧ d ≠ b ∧ m.get d = some x) := by
    intro d x hx
    rw [Mem.get_add, Mem.next_kill, Mem.get_kill] at hx
    by_cases ed : d = m.next
    · rw [if_pos ed] at hx; cases hx; exact .inl ⟨ed, rfl⟩
    · rw [if_neg ed] at hx
      by_cases eb : d = b
      · rw [if_pos eb] at hx; cases hx
      · rw [if_neg eb] at hx; exact .inr ⟨ed, eb, hx⟩
  have hother : ∀ d x k, d ≠ b → m.get d = some x → φ d = some k → k.blk ≠ l.blk := fun d x k hd hx hk e =>
    h.apart b d ⟨.cells c _, false, some s⟩ x l k hb hx hl hk rfl (Ne.symm hd) e.symm
  refine ⟨w', φ.set m.next ⟨l.blk, off', some s, l.size⟩, hrun, ⟨fun d x hx => ?_, fun d f x z k j hx hzf hk hj hr hdf => ?_, fun d k hk => ?_⟩, ⟨hle, by rw [hz']; exact Nat.le_refl _, fun B hB hno => ?_, fun d x k hx hk hr => ?_, q1, q2, q3, by simp, fun d hd => Ren.set_other _ _ (by omega), fun d hd hn => by rw [Mem.get_add, Mem.next_kill, if_neg (by omega), Mem.get_kill]; split <;> first | rfl | exact hn, fun d x k hx hk => ?_⟩, hself⟩
  · rcases hget d x hx with ⟨rfl, rfl⟩ | ⟨ed, eb, hx⟩
    · refine ⟨_, hself, ⟨rfl, fun _ h => (by cases h)⟩, C', e', fz, hh', fun i v hv => ?_, fun _ => by rw [hs']; exact hw rfl, fun h1 h2 => hz h1 h2, fun s' hs2 => by rw [hs']; exact hCs, fun _ => hee rfl⟩
      show ∃ V, C'[off' + i]? = some V ∧ _
      have hold : ((c.drop off).take (len * s)).length = len * s := by simp; omega
      rcases Nat.lt_or_ge i (len * s) with hi | hi
      · rw [List.getElem?_append_left (by omega), List.getElem?_take_of_lt hi, List.getElem?_drop] at hv
        obtain ⟨V, hV, r⟩ := hcc _ v hv
        refine ⟨V, ?_, r.mono hle⟩
        rw [hc', if_neg (by omega)]
        have : cap ≠ 0 := by
          intro h0; subst h0
          have : len = 0 := by omega
          subst this; omega
        rw [hoff this, Nat.add_assoc]; exact hV
      · rw [List.getElem?_append_right (by omega), hold] at hv
        obtain ⟨V, hV, r⟩ := hvs.get hv
        refine ⟨V, ?_, r.mono hle⟩
        have hi2 : i - len * s < Vs.length := by
          rcases Nat.lt_or_ge (i - len * s) Vs.length with h' | h'
          · exact h'
          · rw [List.getElem?_eq_none h'] at hV; cases hV
        rw [hc', if_pos (by omega), show off' + i - (off' + len * s) = i - len * s by omega]
        exact hV
    · obtain ⟨k, hk, ok⟩ := h.live d x hx
      exact ⟨k, hle _ _ hk, (ok.congr (ho _ (hother d x k eb hx hk))).mono hle⟩
  · rcases hget d x hx with ⟨rfl, rfl⟩ | ⟨ed, eb, hx⟩
    · rcases hget f z hzf with ⟨rfl, rfl⟩ | ⟨ef, efb, hzf⟩
      · exact absurd rfl hdf
      · rw [hself] at hk; cases hk
        rw [Ren.set_other _ _ ef] at hj
        exact fun e => hother f z j efb hzf hj e.symm
    · rw [Ren.set_other _ _ ed] at hk
      rcases hget f z hzf with ⟨rfl, rfl⟩ | ⟨ef, efb, hzf⟩
      · rw [hself] at hj; cases hj
        exact hother d x k eb hx hk
      · rw [Ren.set_other _ _ ef] at hj
        exact h.apart d f x z k j hx hzf hk hj hr hdf
  · rw [hz']
    simp only [Mem.next_add, Mem.next_kill]
    by_cases ed : d = m.next
    · rw [ed, hself] at hk; cases hk
      have := h.blk_lt hl
      exact ⟨by omega, this⟩
    · rw [Ren.set_other _ _ ed] at hk
      have := h.below d k hk
      exact ⟨by omega, this.2⟩
  · exact ho B (fun e => hno b ⟨.cells c _, false, some s⟩ l hb hl rfl e.symm)
  · rcases hget d x hx with ⟨rfl, rfl⟩ | ⟨ed, eb, hx⟩
    · rw [hself] at hk; cases hk
      exact .inr ⟨b, ⟨.cells c e, false, some s⟩, l, hb, hl, rfl, rfl⟩
    · rw [Ren.set_other _ _ ed] at hk
      exact .inr ⟨d, x, k, hx, hk, hr, rfl⟩
  · rcases hget d x hx with ⟨rfl, rfl⟩ | ⟨ed, eb, hx⟩
    · rw [hself] at hk; cases hk
      exact .inr ⟨b, ⟨.cells c e, false, some s⟩, l, hb, hl, rfl⟩
    · rw [Ren.set_other _ _ ed] at hk
      exact .inr ⟨d, x, k, hx, hk, rfl⟩

end Go.Fx
