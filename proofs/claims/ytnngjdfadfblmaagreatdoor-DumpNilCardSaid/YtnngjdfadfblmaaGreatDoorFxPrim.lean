/- What the machine's small moves in memory (load, store, new blocks, appends in place) are in the abstract memory. -/
import Derived.Test.YtnngjdfadfblmaaGreatDoorFxMem
namespace Go.Fx
open Go
set_option linter.unusedSimpArgs false
set_option linter.unusedVariables false

theorem getElem?_setCell_heap (w : World) (a : Addr) (v : Value) (B : Nat) (hB : B ≠ a.block) : (w.setCell a v).heap[B]? = w.heap[B]? := by
  simp only [World.setCell, Array.getElem?_modify]
  rw [if_neg (fun h => hB h.symm)]

theorem heap_setCell (w : World) (b i : Nat) (v : Value) {C : Array Value} {e : TypeId} {fz : Nat × Nat} (h : w.heap[b]? = some (.cells C e fz)) :
    (w.setCell ⟨b, i, none⟩ v).heap[b]? = some (.cells (C.setIfInBounds i v) e fz) := by
  simp only [World.setCell, Array.getElem?_modify]
  simp [h]

theorem size_setCell (w : World) (a : Addr) (v : Value) : (w.setCell a v).heap.size = w.heap.size := by simp [World.setCell]

theorem cell?_of_heap {w : World} {b i : Nat} {C : Array Value} {e : TypeId} {fz : Nat × Nat} (h : w.heap[b]? = some (.cells C e fz)) : w.cell? ⟨b, i, none⟩ = C[i]? := by
  simp [World.cell?, h]

theorem frozen?_of_heap {w : World} {b i : Nat} {C : Array Value} {e : TypeId} {fz : Nat × Nat} (h : w.heap[b]? = some (.cells C e fz)) (hw : Warm C.size fz) (hi : i < C.size) :
    w.frozen? ⟨b, i, none⟩ = false := by
  have := hw i hi
  simp only [World.frozen?, h]
  simpa using this

/-- Draws alone. -/
theorem BlkOk.congr {φ : Ren} {w w' : World} {x : ABlk} {l : Loc} (h : BlkOk φ w x l) (e : w'.heap[l.blk]? = w.heap[l.blk]?) : BlkOk φ w' x l := by
  unfold BlkOk at *
  rw [e]; exact h

theorem BlkOk.mono {φ ψ : Ren} {w : World} {x : ABlk} {l : Loc} (hle : Ren.le φ ψ) (h : BlkOk φ w x l) : BlkOk ψ w x l := by
  obtain ⟨h1, h2⟩ := h
  refine ⟨h1, ?_⟩
  split at h2
  · obtain ⟨C, e', fz, h3, h4, h5⟩ := h2
    exact ⟨C, e', fz, h3, fun i v hv => let ⟨V, hV, r⟩ := h4 i v hv; ⟨V, hV, r.mono hle⟩, h5⟩
  · obtain ⟨ES, h3, h4, h5⟩ := h2
    exact ⟨ES, h3, h4, fun i a b ha hb => let ⟨k, l, r⟩ := h5 i a b ha hb; ⟨k, l, r.mono hle⟩⟩
  · exact h2
  · exact h2
  · obtain ⟨r, h3, h4, h5, h6, h7, h8, h9⟩ := h2
    exact ⟨r, h3, h4, h5, h6, h7, h8, h9.mono hle⟩
  · exact h2
  · exact h2

theorem Inv.drawn {φ : Ren} {m : Mem} {w w' : World} (h : Inv φ m w) (e : w'.heap = w.heap) : Inv φ m w' := by
  refine ⟨fun b x hb => ?_, h.apart, fun b l hl => by rw [e]; exact h.below b l hl⟩
  obtain ⟨l, hl, ok⟩ := h.live b x hb
  exact ⟨l, hl, ok.congr (by rw [e])⟩

theorem Frm.drawn {φ : Ren} {m : Mem} {w w' : World} (e : w'.heap = w.heap) (ho : w'.os = w.os) (hu : w'.output = w.output) (ht : w'.tape = w.tape) : Frm φ m w φ m w' :=
  ⟨Ren.le_refl φ, by rw [e]; exact Nat.le_refl _, fun B _ _ => by rw [e], fun b x l h h' h'' => .inr ⟨b, x, l, h, h', h'', rfl⟩, ho, hu, ht, Nat.le_refl _, fun _ _ => rfl, fun _ _ h => h, fun b x l h h' => .inr ⟨b, x, l, h, h', rfl⟩⟩

theorem Inv.blk_lt {φ : Ren} {m : Mem} {w : World} (h : Inv φ m w) {b : Nat} {l : Loc} (hl : φ b = some l) : l.blk < w.heap.size := (h.below b l hl).2

/-- A new block of the machine's that is not told of. -/
theorem Inv.push {φ : Ren} {m : Mem} {w : World} (h : Inv φ m w) (o : Obj) : Inv φ m { w with heap := w.heap.push o } := by
  refine ⟨fun b x hb => ?_, h.apart, fun b l hl => ?_⟩
  · obtain ⟨l, hl, ok⟩ := h.live b x hb
    refine ⟨l, hl, ok.congr ?_⟩
    have := h.blk_lt hl
    rw [Array.getElem?_push_lt this, Array.getElem?_eq_getElem this]
  · have := h.below b l hl
    simp only [Array.size_push]; omega

theorem Frm.push {φ : Ren} {m : Mem} {w : World} (o : Obj) : Frm φ m w φ m { w with heap := w.heap.push o } := by
  refine ⟨Ren.le_refl φ, by simp, fun B hB _ => ?_, fun b x l h h' h'' => .inr ⟨b, x, l, h, h', h'', rfl⟩, rfl, rfl, rfl, Nat.le_refl _, fun _ _ => rfl, fun _ _ h => h, fun b x l h h' => .inr ⟨b, x, l, h, h', rfl⟩⟩
  show (w.heap.push o)[B]? = w.heap[B]?
  rw [Array.getElem?_push_lt hB, Array.getElem?_eq_getElem hB]

/-- The renaming with one more block. -/
def Ren.set (φ : Ren) (b : Nat) (l : Loc) : Ren := fun c => if c = b then some l else φ c

theorem Inv.fresh {φ : Ren} {m : Mem} {w : World} (h : Inv φ m w) : φ m.next = none := by
  cases e : φ m.next with
  | none => rfl
  | some l => have := (h.below _ l e).1; omega

theorem Inv.fresh_get {φ : Ren} {m : Mem} {w : World} (h : Inv φ m w) : m.get m.next = none := by
  cases e : m.get m.next with
  | none => rfl
  | some x =>
    obtain ⟨l, hl, _⟩ := h.live _ x e
    rw [h.fresh] at hl; cases hl

theorem Ren.le_set {φ : Ren} {b : Nat} {l : Loc} (h : φ b = none) : Ren.le φ (φ.set b l) := by
  intro c k hk
  unfold Ren.set
  by_cases e : c = b
  · subst e; rw [h] at hk; cases hk
  · rw [if_neg e]; exact hk

theorem Ren.set_self (φ : Ren) (b : Nat) (l : Loc) : φ.set b l b = some l := by simp [Ren.set]
theorem Ren.set_other (φ : Ren) {b c : Nat} (l : Loc) (h : c ≠ b) : φ.set b l c = φ c := by simp [Ren.set, h]

/-- A new block of both. -/
theorem Inv.alloc {φ : Ren} {m : Mem} {w : World} (h : Inv φ m w) (o : Obj) (x : ABlk) (l : Loc) (hb : l.blk = w.heap.size)
    (ok : BlkOk (φ.set m.next l) { w with heap := w.heap.push o } x l) :
    Inv (φ.set m.next l) (m.add x) { w with heap := w.heap.push o } ∧ Frm φ m w (φ.set m.next l) (m.add x) { w with heap := w.heap.push o } := by
  have hle := Ren.le_set (l := l) h.fresh
  have hp := h.push o
  refine ⟨⟨fun b y hy => ?_, fun b c y z k j hy hz hk hj hr hbc => ?_, fun b k hk => ?_⟩, ⟨hle, by simp, (Frm.push (φ := φ) (m := m) o).same, fun b y k hy hk hr => ?_, rfl, rfl, rfl, by simp, fun b hb => Ren.set_other _ _ (by omega), fun b hb hn => by rw [Mem.get_add, if_neg (by omega)]; exact hn, fun b y k hy hk => ?_⟩⟩
  · rw [Mem.get_add] at hy
    by_cases e : b = m.next
    · rw [if_pos e] at hy
      cases hy
      exact ⟨l, by rw [e]; exact Ren.set_self .., ok⟩
    · rw [if_neg e] at hy
      obtain ⟨k, hk, okk⟩ := hp.live b y hy
      exact ⟨k, hle _ _ hk, okk.mono hle⟩
  · rw [Mem.get_add] at hy hz
    by_cases e : b = m.next
    · have ec : c ≠ m.next := fun h => hbc (e.trans h.symm)
      rw [if_neg ec] at hz
      rw [e, Ren.set_self] at hk
      rw [Ren.set_other _ _ ec] at hj
      cases hk
      have := h.blk_lt hj
      omega
    · rw [if_neg e] at hy
      rw [Ren.set_other _ _ e] at hk
      by_cases ec : c = m.next
      · rw [ec, Ren.set_self] at hj
        cases hj
        have := h.blk_lt hk
        omega
      · rw [if_neg ec] at hz
        rw [Ren.set_other _ _ ec] at hj
        exact h.apart b c y z k j hy hz hk hj hr hbc
  · simp only [Mem.next_add, Array.size_push]
    by_cases e : b = m.next
    · rw [e, Ren.set_self] at hk
      cases hk
      omega
    · rw [Ren.set_other _ _ e] at hk
      have := h.below b k hk
      omega
  · rw [Mem.get_add] at hy
    by_cases e : b = m.next
    · rw [e, Ren.set_self] at hk
      cases hk
      exact .inl (by omega)
    · rw [if_neg e] at hy
      rw [Ren.set_other _ _ e] at hk
      exact .inr ⟨b, y, k, hy, hk, hr, rfl⟩
  · rw [Mem.get_add] at hy
    by_cases e : b = m.next
    · rw [e, Ren.set_self] at hk
      cases hk
      exact .inl (by omega)
    · rw [if_neg e] at hy
      rw [Ren.set_other _ _ e] at hk
      exact .inr ⟨b, y, k, hy, hk, rfl⟩

theorem Inv.allocCells {φ : Ren} {m : Mem} {w : World} (h : Inv φ m w) {c C : List Value} (e : TypeId) (hc : VRs φ c C) :
    ∃ φ', Inv φ' (m.add ⟨.cells c e, false, none⟩) { w with heap := w.heap.push (.cells C.toArray e) } ∧
      Frm φ m w φ' (m.add ⟨.cells c e, false, none⟩) { w with heap := w.heap.push (.cells C.toArray e) } ∧ φ' m.next = some ⟨w.heap.size, 0, none, 0⟩ := by
  refine ⟨φ.set m.next ⟨w.heap.size, 0, none, 0⟩, ?_⟩
  have hle := Ren.le_set (l := ⟨w.heap.size, 0, none, 0⟩) h.fresh
  have := h.alloc (.cells C.toArray e) ⟨.cells c e, false, none⟩ ⟨w.heap.size, 0, none, 0⟩ rfl ?_
  · exact ⟨this.1, this.2, Ren.set_self ..⟩
  · refine ⟨⟨rfl, fun _ _ => rfl⟩, C.toArray, e, (0, 0), by simp, fun i v hv => ?_, fun _ i _ h => by simp at h, fun _ _ => rfl, fun s hs => (by cases hs), fun _ => rfl⟩
    obtain ⟨V, hV, r⟩ := hc.get hv
    exact ⟨V, by simpa using hV, r.mono hle⟩

/-- A new loose block: what an append makes, with room behind. -/
theorem Inv.allocLoose {φ : Ren} {m : Mem} {w : World} (h : Inv φ m w) {c C : List Value} (R : List Value) (e : TypeId) (s : Nat) (hc : VRs φ c C) :
    ∃ φ', Inv φ' (m.add ⟨.cells c e, false, some s⟩) { w with heap := w.heap.push (.cells (C ++ R).toArray e) } ∧
      Frm φ m w φ' (m.add ⟨.cells c e, false, some s⟩) { w with heap := w.heap.push (.cells (C ++ R).toArray e) } ∧ φ' m.next = some ⟨w.heap.size, 0, some s, (C ++ R).length⟩ := by
  refine ⟨φ.set m.next ⟨w.heap.size, 0, some s, (C ++ R).length⟩, ?_⟩
  have hle := Ren.le_set (l := ⟨w.heap.size, 0, some s, (C ++ R).length⟩) h.fresh
  have := h.alloc (.cells (C ++ R).toArray e) ⟨.cells c e, false, some s⟩ ⟨w.heap.size, 0, some s, (C ++ R).length⟩ rfl ?_
  · exact ⟨this.1, this.2, Ren.set_self ..⟩
  · refine ⟨⟨rfl, fun _ h => (by cases h)⟩, (C ++ R).toArray, e, (0, 0), by simp, fun i v hv => ?_, fun _ i _ h => by simp at h, fun _ _ => rfl, fun s hs => (by simp), fun _ => rfl⟩
    obtain ⟨V, hV, r⟩ := hc.get hv
    refine ⟨V, ?_, r.mono hle⟩
    have hi : i < C.length := by
      rcases Nat.lt_or_ge i C.length with h' | h'
      · exact h'
      · rw [List.getElem?_eq_none h'] at hV; cases hV
    simp only [Nat.zero_add, List.getElem?_toArray]
    rw [List.getElem?_append_left hi]; exact hV

theorem Inv.load {φ : Ren} {m : Mem} {w : World} (h : Inv φ m w) {b off : Nat} {c : List Value} {e : TypeId} {ro : Bool} {lo : Option Nat} {v : Value} {l : Loc}
    (hb : m.get b = some ⟨.cells c e, ro, lo⟩) (hl : φ b = some l) (hv : c[off]? = some v) : ∃ V, w.cell? ⟨l.blk, l.base + off, none⟩ = some V ∧ VR φ v V := by
  obtain ⟨k, hk, _, C, e', fz, hh, hc, _⟩ := h.live b _ hb
  rw [hl] at hk; cases hk
  obtain ⟨V, hV, r⟩ := hc off v hv
  exact ⟨V, by rw [cell?_of_heap hh]; exact hV, r⟩

theorem Inv.frozen {φ : Ren} {m : Mem} {w : World} (h : Inv φ m w) {b off : Nat} {c : List Value} {e : TypeId} {lo : Option Nat} {l : Loc}
    (hb : m.get b = some ⟨.cells c e, false, lo⟩) (hl : φ b = some l) (hv : off < c.length) : w.frozen? ⟨l.blk, l.base + off, none⟩ = false := by
  obtain ⟨k, hk, _, C, e', fz, hh, hc, hw, _⟩ := h.live b _ hb
  rw [hl] at hk; cases hk
  obtain ⟨V, hV, r⟩ := hc off c[off] (List.getElem?_eq_getElem hv)
  refine frozen?_of_heap hh (hw rfl) ?_
  rcases Nat.lt_or_ge (l.base + off) C.size with h' | h'
  · exact h'
  · rw [Array.getElem?_eq_none h'] at hV; cases hV

/-- A store into a block of one's own. -/
theorem Inv.store {φ : Ren} {m : Mem} {w : World} (h : Inv φ m w) {b off : Nat} {c : List Value} {e : TypeId} {lo : Option Nat} {l : Loc} {v V : Value}
    (hb : m.get b = some ⟨.cells c e, false, lo⟩) (hl : φ b = some l) (hr : VR φ v V) :
    Inv φ (m.put b ⟨.cells (c.set off v) e, false, lo⟩) (w.setCell ⟨l.blk, l.base + off, none⟩ V) ∧
      Frm φ m w φ (m.put b ⟨.cells (c.set off v) e, false, lo⟩) (w.setCell ⟨l.blk, l.base + off, none⟩ V) := by
  obtain ⟨k, hk, hloose, C, e', fz, hh, hc, hw, hz, hs, hee⟩ := h.live b _ hb
  rw [hl] at hk; cases hk
  refine ⟨⟨fun d y hy => ?_, fun d f y z k j hy hz hk hj hr hdf => ?_, fun d k hk => by rw [size_setCell]; exact h.below d k hk⟩, ⟨Ren.le_refl φ, by rw [size_setCell]; exact Nat.le_refl _, fun B hB hno => ?_, fun d y k hy hk hr => ?_, rfl, rfl, rfl, Nat.le_refl _, fun _ _ => rfl, fun d _ hn => ?_, fun d y k hy hk => ?_⟩⟩
  · rw [Mem.get_put] at hy
    by_cases ed : d = b
    · rw [if_pos ed] at hy
      cases hy
      subst ed
      refine ⟨l, hl, hloose, C.setIfInBounds (l.base + off) V, e', fz, heap_setCell w _ _ _ hh, fun i u hu => ?_, fun hr => by rw [Array.size_setIfInBounds]; exact hw hr, hz, (fun s h => by rw [Array.size_setIfInBounds]; exact hs s h), hee⟩
      rw [List.getElem?_set] at hu
      by_cases ei : off = i
      · subst ei
        rw [if_pos rfl] at hu
        by_cases hlt : off < c.length
        · rw [if_pos hlt] at hu
          cases hu
          obtain ⟨U, hU, _⟩ := hc off c[off] (List.getElem?_eq_getElem hlt)
          have hlt' : l.base + off < C.size := by
            rcases Nat.lt_or_ge (l.base + off) C.size with h' | h'
            · exact h'
            · rw [Array.getElem?_eq_none h'] at hU; cases hU
          exact ⟨V, by rw [Array.getElem?_setIfInBounds_self]; simp [hlt'], hr⟩
        · rw [if_neg hlt] at hu; cases hu
      · rw [if_neg ei] at hu
        obtain ⟨U, hU, r⟩ := hc i u hu
        exact ⟨U, by rw [Array.getElem?_setIfInBounds_ne (by omega)]; exact hU, r⟩
    · rw [if_neg ed] at hy
      obtain ⟨k, hk, ok⟩ := h.live d y hy
      exact ⟨k, hk, ok.congr (getElem?_setCell_heap _ _ _ _ (fun e => h.apart b d ⟨.cells c _, false, lo⟩ y l k hb hy hl hk rfl (Ne.symm ed) e.symm))⟩
  · rw [Mem.get_put] at hy hz
    have g : ∀ d (y : ABlk), (if d = b then some ⟨.cells (c.set off v) e, false, lo⟩ else m.get d) = some y → ∃ y', m.get d = some y' ∧ y'.ro = y.ro := by
      intro d y hy
      by_cases ed : d = b
      · rw [if_pos ed] at hy; cases hy; exact ⟨⟨.cells c e, false, lo⟩, by rw [ed]; exact hb, rfl⟩
      · rw [if_neg ed] at hy; exact ⟨y, hy, rfl⟩
    obtain ⟨y', hy', ry⟩ := g d y hy
    obtain ⟨z', hz', _⟩ := g f z hz
    exact h.apart d f y' z' k j hy' hz' hk hj (ry.trans hr) hdf
  · exact getElem?_setCell_heap _ _ _ _ (fun e => hno b ⟨.cells c _, false, lo⟩ l hb hl rfl e.symm)
  · rw [Mem.get_put] at hy
    by_cases ed : d = b
    · rw [if_pos ed] at hy
      rw [ed] at hk
      rw [hl] at hk; cases hk
      exact .inr ⟨b, ⟨.cells c e, false, lo⟩, l, hb, hl, rfl, rfl⟩
    · rw [if_neg ed] at hy
      exact .inr ⟨d, y, k, hy, hk, hr, rfl⟩
  · rw [Mem.get_put, if_neg (by rintro rfl; rw [hb] at hn; cases hn)]; exact hn
  · rw [Mem.get_put] at hy
    by_cases ed : d = b
    · rw [ed] at hk
      exact .inr ⟨b, ⟨.cells c e, false, lo⟩, k, hb, hk, rfl⟩
    · rw [if_neg ed] at hy
      exact .inr ⟨d, y, k, hy, hk, rfl⟩

theorem Inv.kill {φ : Ren} {m : Mem} {w : World} (h : Inv φ m w) (b : Nat) : Inv φ (m.kill b) w ∧ Frm φ m w φ (m.kill b) w := by
  have g : ∀ d (y : ABlk), (m.kill b).get d = some y → m.get d = some y := by
    intro d y hy
    rw [Mem.get_kill] at hy
    by_cases ed : d = b
    · rw [if_pos ed] at hy; cases hy
    · rwa [if_neg ed] at hy
  exact ⟨⟨fun d y hy => h.live d y (g d y hy), fun d f y z k j hy hz => h.apart d f y z k j (g d y hy) (g f z hz), h.below⟩,
    ⟨Ren.le_refl φ, Nat.le_refl _, fun _ _ _ => rfl, fun d y k hy hk hr => .inr ⟨d, y, k, g d y hy, hk, hr, rfl⟩, rfl, rfl, rfl, Nat.le_refl _, fun _ _ => rfl, fun d _ hn => by rw [Mem.get_kill]; split <;> first | rfl | exact hn, fun d y k hy hk => .inr ⟨d, y, k, g d y hy, hk, rfl⟩⟩⟩

theorem Inv.ext {φ : Ren} {m m' : Mem} {w : World} (hg : ∀ b, m'.get b = m.get b) (hn : m'.next = m.next) (h : Inv φ m w) : Inv φ m' w :=
  ⟨fun b x hb => h.live b x (by rw [← hg]; exact hb), fun b c x y l k hb hc => h.apart b c x y l k (by rw [← hg]; exact hb) (by rw [← hg]; exact hc), fun b l hl => by rw [hn]; exact h.below b l hl⟩

theorem Frm.ext {φ φ' : Ren} {m m' m'' : Mem} {w w' : World} (hg : ∀ b, m''.get b = m'.get b) (hn : m''.next = m'.next) (h : Frm φ m w φ' m' w') : Frm φ m w φ' m'' w' :=
  ⟨h.ren, h.size, h.same, fun b x l hb => h.own b x l (by rw [← hg]; exact hb), h.os, h.output, h.tape, by rw [hn]; exact h.nxt, h.old, fun b hb hd => by rw [hg]; exact h.dead b hb hd, fun b x l hb => h.all b x l (by rw [← hg]; exact hb)⟩

def setOver : List Value → List Value → List Value
  | [], c => c
  | _ :: _, [] => []
  | v :: vs, _ :: c => v :: setOver vs c
/-- Values from a place on (what lies beyond the end is dropped). -/
def setRange : List Value → Nat → List Value → List Value
  | c, 0, vs => setOver vs c
  | [], _ + 1, _ => []
  | x :: c, o + 1, vs => x :: setRange c o vs

theorem setRange_nil : ∀ (c : List Value) (o : Nat), setRange c o [] = c
  | c, 0 => by simp only [setRange, setOver]
  | [], _ + 1 => rfl
  | x :: c, o + 1 => by simp only [setRange]; rw [setRange_nil c o]
theorem setRange_cons : ∀ (c : List Value) (o : Nat) (v : Value) (r : List Value), setRange c o (v :: r) = setRange (c.set o v) (o + 1) r
  | [], 0, v, r => by simp [setRange, setOver]
  | x :: c, 0, v, r => by simp [setRange, setOver]
  | [], o + 1, v, r => by simp [setRange]
  | x :: c, o + 1, v, r => by
    rw [List.set_cons_succ]
    simp only [setRange]
    rw [setRange_cons c o v r]

theorem length_setRange (vs : List Value) : ∀ (c : List Value) (o : Nat), (setRange c o vs).length = c.length := by
  induction vs with
  | nil => intro c o; rw [setRange_nil]
  | cons v r ih => intro c o; simp [setRange_cons, ih]

theorem getElem?_setRange (vs : List Value) : ∀ (c : List Value) (o j : Nat), o + vs.length ≤ c.length →
    (setRange c o vs)[j]? = if o ≤ j ∧ j < o + vs.length then vs[j - o]? else c[j]? := by
  induction vs with
  | nil => intro c o j _; rw [if_neg (by simp only [List.length_nil]; omega), setRange_nil]
  | cons v r ih =>
    intro c o j h
    simp only [List.length_cons] at h
    rw [setRange_cons]
    rw [ih _ _ _ (by rw [List.length_set]; omega)]
    by_cases h1 : o + 1 ≤ j ∧ j < o + 1 + r.length
    · rw [if_pos h1, if_pos (by simp only [List.length_cons]; omega)]
      obtain ⟨d, rfl⟩ : ∃ d, j = o + 1 + d := ⟨j - (o + 1), by omega⟩
      rw [show o + 1 + d - (o + 1) = d by omega, show o + 1 + d - o = d + 1 by omega]
      simp
    · rw [if_neg h1]
      by_cases h2 : j = o
      · subst h2
        rw [if_pos (by simp only [List.length_cons]; omega), List.getElem?_set_self (by omega)]
        simp
      · rw [if_neg (by simp only [List.length_cons]; omega), List.getElem?_set_ne (by omega)]

theorem add_mk (b o n : Nat) : Addr.add ⟨b, o, none⟩ n = ⟨b, o + n, none⟩ := by
  unfold Addr.add
  by_cases h : n = 0
  · subst h; simp
  · simp [h]

/-- May a value lie in one cell? -/
def oneB (v : Value) : Bool := v.oneCell'

theorem VR.one {φ : Ren} {v V : Value} (h : VR φ v V) : V.oneCell' = v.oneCell' := by cases h <;> rfl

theorem Inv.storeCells {φ : Ren} {P : Program} {b : Nat} {l : Loc} {e : TypeId} {lo : Option Nat} (hl : φ b = some l) (o : Nat) : ∀ (vs Vs : List Value) (i : Nat) (c : List Value) (m : Mem) (w : World), Inv φ m w →
    m.get b = some ⟨.cells c e, false, lo⟩ → VRs φ vs Vs → (∀ v ∈ vs, v.oneCell' = true) → o + i + vs.length ≤ c.length →
    ∃ w', (Go.storeCells ⟨l.blk, l.base + o, none⟩ Vs i).run P w = .ok () w' ∧ Inv φ (m.put b ⟨.cells (setRange c (o + i) vs) e, false, lo⟩) w' ∧ Frm φ m w φ (m.put b ⟨.cells (setRange c (o + i) vs) e, false, lo⟩) w' := by
  intro vs
  induction vs with
  | nil =>
    intro Vs i c m w h hb hr h1 hlen
    have hV : Vs = [] := by have := hr.1; simpa using this.symm
    subst hV
    have hg : ∀ d, (m.put b ⟨.cells (setRange c (o + i) []) e, false, lo⟩).get d = m.get d := by
      intro d; rw [Mem.get_put]; by_cases ed : d = b
      · rw [if_pos ed, ed, hb, setRange_nil]
      · rw [if_neg ed]
    exact ⟨w, by simp [Go.storeCells], h.ext hg rfl, (Frm.refl φ m w).ext hg rfl⟩
  | cons v r ih =>
    intro Vs i c m w h hb hr h1 hlen
    simp only [List.length_cons] at hlen
    cases Vs with
    | nil => have := hr.1; simp at this
    | cons V R =>
      have hv : VR φ v V := hr.2 0 v V rfl rfl
      have hR : VRs φ r R := ⟨by have := hr.1; simpa using this, fun j x y hx hy => hr.2 (j + 1) x y (by simpa using hx) (by simpa using hy)⟩
      have hcell : ∃ U, c[o + i]? = some U := ⟨c[o + i]'(by omega), List.getElem?_eq_getElem (by omega)⟩
      obtain ⟨U, hU⟩ := hcell
      obtain ⟨U', hU', _⟩ := h.load hb hl hU
      have hf := h.frozen (off := o + i) hb hl (by omega)
      obtain ⟨h2, f2⟩ := h.store (off := o + i) hb hl hv
      obtain ⟨w', hrun, h3, f3⟩ := ih R (i + 1) (c.set (o + i) v) _ _ h2 (by rw [Mem.get_put, if_pos rfl]) hR (fun x hx => h1 x (List.mem_cons_of_mem _ hx)) (by rw [List.length_set]; omega)
      have hg : ∀ d, (m.put b ⟨.cells (setRange c (o + i) (v :: r)) e, false, lo⟩).get d =
          ((m.put b ⟨.cells (c.set (o + i) v) e, false, lo⟩).put b ⟨.cells (setRange (c.set (o + i) v) (o + (i + 1)) r) e, false, lo⟩).get d := by
        intro d; rw [Mem.get_put, Mem.get_put, Mem.get_put]
        by_cases ed : d = b
        · rw [if_pos ed, if_pos ed, setRange_cons]; rfl
        · rw [if_neg ed, if_neg ed, if_neg ed]
      refine ⟨w', ?_, h3.ext hg rfl, (f2.trans f3).ext hg rfl⟩
      rw [show l.base + (o + i) = l.base + o + i by omega] at hU' hf hrun
      simp only [Go.storeCells, Sem.run_bind, add_mk]
      rw [run_store _ _ _ _ _ (by rw [hv.one]; exact h1 v (List.mem_cons_self ..)), hU', hf]
      simpa using hrun

theorem Inv.loadCellsFrom {φ : Ren} {P : Program} {m : Mem} {w : World} (h : Inv φ m w) {b : Nat} {c : List Value} {e : TypeId} {ro : Bool} {lo : Option Nat} {l : Loc}
    (hb : m.get b = some ⟨.cells c e, ro, lo⟩) (hl : φ b = some l) (o : Nat) : ∀ (n i : Nat) (acc : Array Value), o + i + n ≤ c.length →
    ∃ Vs, (Go.loadCellsFrom ⟨l.blk, l.base + o, none⟩ i n acc).run P w = .ok (acc ++ Vs.toArray) w ∧ VRs φ ((c.drop (o + i)).take n) Vs := by
  intro n
  induction n with
  | zero => intro i acc _; exact ⟨[], by simp [Go.loadCellsFrom], by simpa using VRs.nil φ⟩
  | succ n ih =>
    intro i acc hlen
    have hU : c[o + i]? = some (c[o + i]'(by omega)) := List.getElem?_eq_getElem (by omega)
    obtain ⟨V, hV, hr⟩ := h.load hb hl hU
    obtain ⟨Vs, hrun, hrs⟩ := ih (i + 1) (acc.push V) (by omega)
    refine ⟨V :: Vs, ?_, ?_⟩
    · rw [show l.base + (o + i) = l.base + o + i by omega] at hV
      simp only [Go.loadCellsFrom, Sem.run_bind, add_mk, run_load, hV, Result.andThen_ok]
      rw [hrun]
      simp
    · rw [List.drop_eq_getElem_cons (show o + i < c.length by omega), List.take_succ_cons]
      exact VRs.cons hr hrs

theorem Inv.loadCells {φ : Ren} {P : Program} {m : Mem} {w : World} (h : Inv φ m w) {b : Nat} {c : List Value} {e : TypeId} {ro : Bool} {lo : Option Nat} {l : Loc}
    (hb : m.get b = some ⟨.cells c e, ro, lo⟩) (hl : φ b = some l) (o n : Nat) (hlen : o + n ≤ c.length) :
    ∃ Vs, (Go.loadCells ⟨l.blk, l.base + o, none⟩ n).run P w = .ok Vs.toArray w ∧ VRs φ ((c.drop o).take n) Vs := by
  obtain ⟨Vs, hr, hs⟩ := h.loadCellsFrom (P := P) hb hl o n 0 #[] (by omega)
  exact ⟨Vs, by simpa [Go.loadCells] using hr, by simpa using hs⟩

end Go.Fx
