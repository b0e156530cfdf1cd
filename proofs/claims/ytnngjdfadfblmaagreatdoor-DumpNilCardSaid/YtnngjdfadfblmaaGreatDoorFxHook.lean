/- Functions of Go's library, met by the shelf's contracts: what is asked of the heap stays as it was. -/
import Derived.Test.YtnngjdfadfblmaaGreatDoorFxRun
import Derived.Below
namespace Go.Fx
open Go Go.RowKit

theorem Inv.belowed {φ : Ren} {m : Mem} {w w' : World} (h : Inv φ m w) (hb : Below w.heap.size w w') : Inv φ m w' ∧ Frm φ m w φ m w' := by
  refine ⟨⟨fun b x hx => ?_, h.apart, fun b l hl => ⟨(h.below b l hl).1, Nat.lt_of_lt_of_le (h.below b l hl).2 hb.size⟩⟩, Ren.le_refl φ, hb.size, fun B hB _ => hb.block B hB, fun b x l hx hl hr => .inr ⟨b, x, l, hx, hl, hr, rfl⟩, hb.os, hb.output, hb.tape, Nat.le_refl _, fun _ _ => rfl, fun _ _ h => h, fun b x l hx hl => .inr ⟨b, x, l, hx, hl, rfl⟩⟩
  obtain ⟨l, hl, ok⟩ := h.live b x hx
  exact ⟨l, hl, ok.congr (hb.block l.blk (h.below b l hl).2)⟩

theorem calls1_below {P : Program} {φ : Ren} {m : Mem} {w : World} {f : FuncId} {args : Array Value} {v V : Value} (hi : Inv φ m w) (hv : VR φ v V) (h : Calls P f args w fun e w' => e = .returned V ∧ Below w.heap.size w w') :
    Calls1 P φ m w f args v m := by
  refine h.mono ?_
  rintro e w' ⟨rfl, hb⟩
  obtain ⟨h1, h2⟩ := hi.belowed hb
  exact ⟨V, φ, rfl, hv, h1, h2⟩
theorem calls1_same {P : Program} {φ : Ren} {m : Mem} {w : World} {f : FuncId} {args : Array Value} {v V : Value} (hi : Inv φ m w) (hv : VR φ v V) (h : Calls P f args w fun e w' => e = .returned V ∧ w' = w) :
    Calls1 P φ m w f args v m := by
  refine calls1_below hi hv (h.mono ?_)
  rintro e w' ⟨rfl, rfl⟩
  exact ⟨rfl, Below.refl _ _⟩

/-- Arguments that are no references come as they are. -/
theorem VRs.two {φ : Ren} {a b : Value} {ARGS : Array Value} (h : VRs φ [a, b] ARGS.toList) : ∃ A B, ARGS = #[A, B] ∧ VR φ a A ∧ VR φ b B := by
  obtain ⟨l⟩ := ARGS
  obtain ⟨h1, h2⟩ := h
  match l, h1 with
  | [A, B], _ => exact ⟨A, B, rfl, h2 0 a A rfl rfl, h2 1 b B rfl rfl⟩
theorem VRs.one' {φ : Ren} {a : Value} {ARGS : Array Value} (h : VRs φ [a] ARGS.toList) : ∃ A, ARGS = #[A] ∧ VR φ a A := by
  obtain ⟨l⟩ := ARGS
  obtain ⟨h1, h2⟩ := h
  match l, h1 with
  | [A], _ => exact ⟨A, rfl, h2 0 a A rfl rfl⟩

/-- A block that the library has made, of which nothing is told. -/
theorem Inv.addAt {φ : Ren} {m : Mem} {w : World} (h : Inv φ m w) {N : Nat} {C : Array Value} {e' : TypeId} {fz : Nat × Nat} (hN : w.heap[N]? = some (.cells C e' fz)) (hall : ∀ b l, φ b = some l → l.blk ≠ N) (e : TypeId) :
    Inv (φ.set m.next ⟨N, 0, none, 0⟩) (m.add ⟨.cells [] e, true, none⟩) w ∧ Ren.le φ (φ.set m.next ⟨N, 0, none, 0⟩) := by
  have hle := Ren.le_set (l := ⟨N, 0, none, 0⟩) h.fresh
  have hlt : N < w.heap.size := (Array.getElem?_eq_some_iff.1 hN).1
  refine ⟨⟨fun b y hy => ?_, fun b c y z k j hy hz hk hj hr hbc => ?_, fun b k hk => ?_⟩, hle⟩
  · rw [Mem.get_add] at hy
    by_cases eb : b = m.next
    · rw [if_pos eb] at hy; cases hy
      exact ⟨_, by rw [eb]; exact Ren.set_self .., ⟨⟨rfl, fun h => (by cases h)⟩, C, e', fz, hN, fun i v hv => by simp at hv, (fun h => by cases h), (fun h => by cases h), (fun s h => by cases h), (fun h => by cases h)⟩⟩
    · rw [if_neg eb] at hy
      obtain ⟨k, hk, ok⟩ := h.live b y hy
      exact ⟨k, hle _ _ hk, ok.mono hle⟩
  · rw [Mem.get_add] at hy hz
    by_cases eb : b = m.next
    · rw [if_pos eb] at hy; cases hy; cases hr
    · rw [if_neg eb] at hy
      rw [Ren.set_other _ _ eb] at hk
      by_cases ec : c = m.next
      · rw [ec, Ren.set_self] at hj; cases hj
        exact hall b k hk
      · rw [if_neg ec] at hz
        rw [Ren.set_other _ _ ec] at hj
        exact h.apart b c y z k j hy hz hk hj hr hbc
  · rw [Mem.next_add]
    by_cases eb : b = m.next
    · rw [eb, Ren.set_self] at hk; cases hk
      exact ⟨by omega, hlt⟩
    · rw [Ren.set_other _ _ eb] at hk
      have := h.below b k hk
      exact ⟨by omega, this.2⟩

/-- What a library's call hands back that points to a new block of its own. -/
theorem calls1_new {P : Program} {φ : Ren} {m : Mem} {w : World} {f : FuncId} {args : Array Value} {v : Value} {e : TypeId} (hi : Inv φ m w)
    (h : Calls P f args w fun E w' => ∃ N V C e' fz, E = .returned V ∧ w.heap.size ≤ N ∧ w'.heap[N]? = some (.cells C e' fz) ∧ Below w.heap.size w w' ∧ ∀ ψ : Ren, ψ m.next = some ⟨N, 0, none, 0⟩ → VR ψ v V) :
    Calls1 P φ m w f args v (m.add ⟨.cells [] e, true, none⟩) := by
  refine h.mono ?_
  rintro E w' ⟨N, V, C, e', fz, rfl, hN, hC, hb, hv⟩
  obtain ⟨h1, h2⟩ := hi.belowed hb
  obtain ⟨h3, h4⟩ := h1.addAt hC (fun b l hl => by have := hi.blk_lt hl; omega) e
  refine ⟨V, _, rfl, hv _ (Ren.set_self ..), h3, ⟨h4, hb.size, h2.same, fun b x l hx hl hr => ?_, hb.os, hb.output, hb.tape, by simp, fun b hb' => Ren.set_other _ _ (by omega), fun b hb' hn => by rw [Mem.get_add, if_neg (by omega)]; exact hn, fun b x l hx hl => ?_⟩⟩
  · rw [Mem.get_add] at hx
    by_cases eb : b = m.next
    · rw [if_pos eb] at hx; cases hx; cases hr
    · rw [if_neg eb] at hx
      rw [Ren.set_other _ _ eb] at hl
      exact .inr ⟨b, x, l, hx, hl, hr, rfl⟩
  · rw [Mem.get_add] at hx
    by_cases eb : b = m.next
    · rw [eb, Ren.set_self] at hl; cases hl; exact .inl hN
    · rw [if_neg eb] at hx
      rw [Ren.set_other _ _ eb] at hl
      exact .inr ⟨b, x, l, hx, hl, rfl⟩

/-- A listed variable, where it is looked for. -/
theorem Inv.glob {φ : Ren} {m : Mem} {w : World} (h : Inv φ m w) {b g : Nat} {k : GKind} (hb : m.get b = some ⟨.glob g k, true, none⟩) : ∃ C e fz, w.heap[g]? = some (.cells C e fz) ∧ k.Ok C := by
  obtain ⟨l, hl, _, hg, C, e, fz, hC, hk⟩ := h.live b _ hb
  exact ⟨C, e, fz, hg ▸ hC, hk⟩

/-- A closed run, by hooks that are met. -/
theorem closed_calls' {P : Program} {S : CallF} {tab : Tab} (hSok : CallOk P S) (hS : ∀ f args m r, f < yBase → S f args m = some r → goodFn P f = true) (hm : P.follows .mixedOrders = true) (htab : TabOk P tab) (hgood : ∀ f x, tab f = some x → goodFn P f = true) {f : FuncId} (hf : f < yBase) {m0 : Mem}
    (h : Call S tab f [] ⟨0, .leaf⟩ = some (.bool true, m0)) :
    ∀ (φ : Ren) (m : Mem) (w : World) (ARGS : Array Value), Inv φ m w → VRs φ [] ARGS.toList → Calls1 P φ m w f ARGS (.bool true) m := by
  intro φ m w ARGS hi ha
  have hA : ARGS = #[] := by have := ha.1; simp at this; exact Array.eq_empty_of_size_eq_zero this.symm
  subst hA
  obtain ⟨N, hN⟩ := Call_iff.1 h
  refine ((sound_call hm hSok hS htab hgood N).fn f [] ⟨0, .leaf⟩ (.bool true) m0 hf hN (fun _ => none) w #[] (Inv.empty w) (VRs.nil _)).mono ?_
  rintro e w' ⟨V, φ', rfl, hV, _, hfr⟩
  cases hV
  obtain ⟨h1, h2⟩ := hi.belowed (hfr.below allRo_empty)
  exact ⟨_, φ, rfl, .bool true, h1, h2⟩

end Go.Fx
