/- What a call is handed: each reading of it lies in the abstract memory, in blocks that are never written. -/
import Derived.Test.YtnngjdfadfblmaaGreatDoorFxCode
import Derived.OpenShut
import Derived.ChangeArms
import Derived.DataReads
import Derived.Below
import Derived.SizedLaws
namespace Go.Fx
open Go
set_option linter.unusedSimpArgs false
set_option linter.unusedVariables false

def tileB (P : Program) : List Field → Nat → Nat → Bool
  | [], off, total => off == total
  | f :: r, off, total => f.offset == off && tileB P r (off + P.cellsOf f.type) total

/-- The types whose values can be laid out so. -/
def okT (P : Program) : Nat → TypeId → Bool
  | 0, _ => false
  | n + 1, t => match P.underlying t with
    | some .bool | some (.int _) | some .string => P.cellsOf t == 1
    | some (.slice e) => P.cellsOf t == 1 && P.cellsOf e != 0 && okT P n e
    | some (.struct fs) => tileB P fs.toList 0 (P.cellsOf t) && fs.toList.all fun f => okT P n f.type
    | some (.array k e) => P.cellsOf t == k * P.cellsOf e && okT P n e
    | _ => false

/-- Cells that are a value of a type. -/
def WTB (P : Program) (B : Nat) (m : Mem) : Nat → TypeId → List Value → Prop
  | 0, _, _ => False
  | n + 1, t, cs => match P.underlying t with
    | some .bool => ∃ b, cs = [.bool b]
    | some (.int k) => ∃ x, cs = [.int k x] ∧ (Lit.int k x).wf = true
    | some .string => ∃ s : ByteArray, cs = [.string s] ∧ s.size ≤ B
    | some (.slice e) => cs = [.slice none 0 0] ∨ (∃ b off, cs = [.slice (some ⟨b, off, none⟩) 0 0] ∧ b < m.next) ∨
        ∃ b len cap c e', cs = [.slice (some ⟨b, 0, none⟩) len cap] ∧ b < m.next ∧ len ≤ cap ∧ (cap ≤ maxLen ∧ cap * P.bytesOf e ≤ B) ∧ m.get b = some ⟨.cells c e', true, none⟩ ∧ c.length = cap * P.cellsOf e ∧
          ∀ i, i < cap → WTB P B m n e ((c.drop (i * P.cellsOf e)).take (P.cellsOf e))
    | some (.struct fs) => cs.length = P.cellsOf t ∧ ∀ f ∈ fs.toList, WTB P B m n f.type ((cs.drop f.offset).take (P.cellsOf f.type))
    | some (.array k e) => cs.length = k * P.cellsOf e ∧ ∀ i, i < k → WTB P B m n e ((cs.drop (i * P.cellsOf e)).take (P.cellsOf e))
    | _ => False

abbrev WT (P : Program) := WTB P reachBytes

def Mem.sub (m m' : Mem) : Prop := (∀ b x, m.get b = some x → m'.get b = some x) ∧ m.next ≤ m'.next
theorem Mem.sub_refl (m : Mem) : m.sub m := ⟨fun _ _ h => h, Nat.le_refl _⟩
theorem Mem.sub_trans {m m' m'' : Mem} (h : m.sub m') (h' : m'.sub m'') : m.sub m'' := ⟨fun b x e => h'.1 b x (h.1 b x e), Nat.le_trans h.2 h'.2⟩

theorem WTB.mono {P : Program} {B : Nat} {m m' : Mem} (hs : m.sub m') : ∀ {n : Nat} {t : TypeId} {cs : List Value}, WTB P B m n t cs → WTB P B m' n t cs
  | 0, _, _, h => h
  | n + 1, t, cs, h => by
    unfold WTB at h ⊢
    cases hd : P.underlying t with
    | none => rw [hd] at h; exact h
    | some d =>
      rw [hd] at h
      cases d <;> simp only at h ⊢ <;> try exact h
      · rcases h with h | ⟨b, off, h, hb⟩ | ⟨b, len, cap, c, e', h1, hb, h2, h3, h4, h5, h6⟩
        · exact .inl h
        · exact .inr (.inl ⟨b, off, h, Nat.lt_of_lt_of_le hb hs.2⟩)
        · exact .inr (.inr ⟨b, len, cap, c, e', h1, Nat.lt_of_lt_of_le hb hs.2, h2, h3, hs.1 _ _ h4, h5, fun i hi => (h6 i hi).mono hs⟩)
      · exact ⟨h.1, fun i hi => (h.2 i hi).mono hs⟩
      · exact ⟨h.1, fun f hf => (h.2 f hf).mono hs⟩

def AllRo (m : Mem) : Prop := ∀ b x, m.get b = some x → x.ro = true

theorem Inv.addRo {φ : Ren} {m : Mem} {w : World} (h : Inv φ m w) (hr : AllRo m) (x : ABlk) (l : Loc) (hx : x.ro = true) (hb : l.blk < w.heap.size) (ok : BlkOk φ w x l) :
    Inv (φ.set m.next l) (m.add x) w ∧ AllRo (m.add x) ∧ Ren.le φ (φ.set m.next l) ∧ m.sub (m.add x) := by
  have hle := Ren.le_set (l := l) h.fresh
  have hro : AllRo (m.add x) := by
    intro b y hy
    rw [Mem.get_add] at hy
    by_cases e : b = m.next
    · rw [if_pos e] at hy; cases hy; exact hx
    · rw [if_neg e] at hy; exact hr b y hy
  refine ⟨⟨fun b y hy => ?_, fun b c y z k j hy hz hk hj hry hbc => ?_, fun b k hk => ?_⟩, hro, hle, fun b y hy => ?_, by simp⟩
  · rw [Mem.get_add] at hy
    by_cases e : b = m.next
    · rw [if_pos e] at hy; cases hy
      exact ⟨l, by rw [e]; exact Ren.set_self .., ok.mono hle⟩
    · rw [if_neg e] at hy
      obtain ⟨k, hk, okk⟩ := h.live b y hy
      exact ⟨k, hle _ _ hk, okk.mono hle⟩
  · rw [hro b y hy] at hry; cases hry
  · rw [Mem.next_add]
    by_cases e : b = m.next
    · rw [e, Ren.set_self] at hk; cases hk
      exact ⟨by omega, hb⟩
    · rw [Ren.set_other _ _ e] at hk
      have := h.below b k hk
      exact ⟨by omega, this.2⟩
  · rw [Mem.get_add, if_neg (fun e => by rw [e, h.fresh_get] at hy; cases hy)]
    exact hy

section
variable {H : Type} {enc : TypeId × Value → H} {P : Program} {W : World} {B : Nat}

/-- One reading, laid out. -/
def Abs1 (P : Program) (B : Nat) (W : World) (n : Nat) (t : TypeId) (cs : List Value) : Prop :=
  ∀ φ m, Inv φ m W → AllRo m → ∃ φ' m' acs, Inv φ' m' W ∧ AllRo m' ∧ Ren.le φ φ' ∧ m.sub m' ∧ VRs φ' acs cs ∧ WTB P B m' n t acs

theorem many_abs {n : Nat} : ∀ (items : List (TypeId × List Value)), (∀ it ∈ items, Abs1 P B W n it.1 it.2) → ∀ φ m, Inv φ m W → AllRo m →
    ∃ (φ' : Ren) (m' : Mem) (outs : List (List Value)), Inv φ' m' W ∧ AllRo m' ∧ Ren.le φ φ' ∧ m.sub m' ∧ outs.length = items.length ∧ ∀ (i : Nat) it (o : List Value), items[i]? = some it → outs[i]? = some o → VRs φ' o it.2 ∧ WTB P B m' n it.1 o
  | [], _, φ, m, hi, hr => ⟨φ, m, [], hi, hr, Ren.le_refl φ, m.sub_refl, rfl, fun i it o h => by simp at h⟩
  | it :: items, hall, φ, m, hi, hr => by
    obtain ⟨φ1, m1, acs, i1, r1, l1, s1, v1, w1⟩ := hall it (List.mem_cons_self ..) φ m hi hr
    obtain ⟨φ2, m2, outs, i2, r2, l2, s2, e2, a2⟩ := many_abs items (fun x hx => hall x (List.mem_cons_of_mem _ hx)) φ1 m1 i1 r1
    refine ⟨φ2, m2, acs :: outs, i2, r2, Ren.le_trans l1 l2, Mem.sub_trans s1 s2, by simp [e2], fun i x o hx ho => ?_⟩
    cases i with
    | zero => simp at hx ho; subst hx; subst ho; exact ⟨v1.mono l2, w1.mono s2⟩
    | succ i => exact a2 i x o (by simpa using hx) (by simpa using ho)

theorem VRs.flatten {φ : Ren} : ∀ {xs ys : List (List Value)}, xs.length = ys.length → (∀ (i : Nat) x y, xs[i]? = some x → ys[i]? = some y → VRs φ x y) → VRs φ xs.flatten ys.flatten
  | [], [], _, _ => VRs.nil φ
  | x :: xs, y :: ys, h, hall => by
    rw [List.flatten_cons, List.flatten_cons]
    exact (hall 0 x y rfl rfl).append (VRs.flatten (by simpa using h) (fun i a b ha hb => hall (i + 1) a b (by simpa using ha) (by simpa using hb)))

theorem flatten_piece {s : Nat} : ∀ {xs : List (List Value)}, (∀ x ∈ xs, x.length = s) → ∀ (i : Nat) x, xs[i]? = some x → (xs.flatten.drop (i * s)).take s = x
  | [], _, i, x, h => by simp at h
  | y :: xs, hl, i, x, h => by
    have hy := hl y (List.mem_cons_self ..)
    cases i with
    | zero =>
      simp only [List.getElem?_cons_zero, Option.some.injEq] at h
      subst h
      simp [← hy]
    | succ i =>
      rw [List.flatten_cons, show (i + 1) * s = y.length + i * s by rw [hy, Nat.add_mul]; omega, List.drop_append, List.drop_eq_nil_of_le (by omega)]
      rw [List.nil_append, show y.length + i * s - y.length = i * s by omega]
      exact flatten_piece (fun z hz => hl z (List.mem_cons_of_mem _ hz)) i x (by simpa using h)

theorem flatten_len {s : Nat} : ∀ {xs : List (List Value)}, (∀ x ∈ xs, x.length = s) → xs.flatten.length = xs.length * s
  | [], _ => by simp
  | y :: xs, hl => by
    rw [List.flatten_cons, List.length_append, hl y (List.mem_cons_self ..), flatten_len (fun z hz => hl z (List.mem_cons_of_mem _ hz)), List.length_cons, Nat.add_mul]; omega

/-- Pieces of cells, one behind the other. -/
theorem tile_flatten : ∀ (fs : List Field) (off total : Nat) (cs : List Value), tileB P fs off total = true → cs.length = total → (fs.map fun f => (cs.drop f.offset).take (P.cellsOf f.type)).flatten = cs.drop off
  | [], off, total, cs, h, hl => by
    simp only [tileB, beq_iff_eq] at h
    subst h
    simp [hl]
  | f :: fs, off, total, cs, h, hl => by
    simp only [tileB, Bool.and_eq_true, beq_iff_eq] at h
    obtain ⟨rfl, h⟩ := h
    have := tile_flatten fs _ total cs h hl
    rw [List.map_cons, List.flatten_cons, this]
    rw [← List.drop_drop]
    exact List.take_append_drop _ _

theorem tile_bound : ∀ (fs : List Field) (off total : Nat), tileB P fs off total = true → off ≤ total ∧ ∀ f ∈ fs, off ≤ f.offset ∧ f.offset + P.cellsOf f.type ≤ total
  | [], off, total, h => by
    simp only [tileB, beq_iff_eq] at h
    exact ⟨by omega, fun f hf => by cases hf⟩
  | g :: fs, off, total, h => by
    simp only [tileB, Bool.and_eq_true, beq_iff_eq] at h
    obtain ⟨rfl, h⟩ := h
    obtain ⟨h1, h2⟩ := tile_bound fs _ total h
    refine ⟨by omega, fun f hf => ?_⟩
    rcases List.mem_cons.1 hf with rfl | hf
    · exact ⟨Nat.le_refl _, h1⟩
    · have := h2 f hf
      exact ⟨by omega, this.2⟩

/-- A struct's pieces, put together, lie where they are looked for. -/
theorem tile_piece : ∀ (fs : List Field) (outs : List (List Value)) (off total : Nat) (pre : List Value), tileB P fs off total = true → outs.length = fs.length → (∀ (i : Nat) f o, fs[i]? = some f → outs[i]? = some o → o.length = P.cellsOf f.type) → pre.length = off →
    ∀ (i : Nat) f o, fs[i]? = some f → outs[i]? = some o → ((pre ++ outs.flatten).drop f.offset).take (P.cellsOf f.type) = o
  | [], _, _, _, _, _, _, _, _, i, f, o, h, _ => by simp at h
  | g :: fs, [], _, _, _, _, hl, _, _, _, _, _, _, _ => by simp at hl
  | g :: fs, x :: outs, off, total, pre, ht, hl, hlen, hp, i, f, o, hf, ho => by
    simp only [tileB, Bool.and_eq_true, beq_iff_eq] at ht
    obtain ⟨hg, ht⟩ := ht
    have hx := hlen 0 g x rfl rfl
    cases i with
    | zero =>
      simp only [List.getElem?_cons_zero, Option.some.injEq] at hf ho
      subst hf; subst ho
      rw [hg, ← hp, List.drop_left, List.flatten_cons, ← hx, List.take_left]
    | succ i =>
      have := tile_piece fs outs (off + P.cellsOf g.type) total (pre ++ x) ht (by simpa using hl) (fun i f o hf ho => hlen (i + 1) f o (by simpa using hf) (by simpa using ho)) (by simp [hp, hx]) i f o (by simpa using hf) (by simpa using ho)
      rw [List.flatten_cons, ← List.append_assoc]; exact this

theorem tile_total : ∀ (fs : List Field) (outs : List (List Value)) (off total : Nat), tileB P fs off total = true → outs.length = fs.length → (∀ (i : Nat) f o, fs[i]? = some f → outs[i]? = some o → o.length = P.cellsOf f.type) → off + outs.flatten.length = total
  | [], outs, off, total, h, hl, _ => by
    simp only [tileB, beq_iff_eq] at h
    have : outs = [] := by simpa using hl
    subst this; simp [h]
  | g :: fs, [], _, _, _, hl, _ => by simp at hl
  | g :: fs, x :: outs, off, total, h, hl, hlen => by
    simp only [tileB, Bool.and_eq_true, beq_iff_eq] at h
    obtain ⟨hg, h⟩ := h
    have := tile_total fs outs _ total h (by simpa using hl) (fun i f o hf ho => hlen (i + 1) f o (by simpa using hf) (by simpa using ho))
    have hx := hlen 0 g x rfl rfl
    rw [List.flatten_cons, List.length_append, hx]; omega

theorem weights_mem_all {e : TypeId} {d : DataW H} : ∀ {l : List (DataW H)}, d ∈ l → ∀ z ∈ d.weights P e, z ∈ DataW.weightsAll P e l
  | [], h, _, _ => by cases h
  | x :: l, h, z, hz => by
    simp only [DataW.weightsAll, List.mem_append]
    rcases List.mem_cons.1 h with rfl | h
    · exact .inl hz
    · exact .inr (weights_mem_all h z hz)

theorem trod_abs : ∀ (n fuel : Nat) (t : TypeId) (cs : List Value) (x : DataW H × List MemPlace), okT P n t = true → DataW.trod enc P W 0 (fun _ => true) true fuel t cs = some x → (∀ z ∈ x.1.weights P t, z ≤ B) → Abs1 P B W n t cs := by
  intro n
  induction n with
  | zero => intro fuel t cs x h; simp [okT] at h
  | succ n ih =>
    intro fuel t cs x hok htr hwt φ m hi hr
    unfold okT at hok
    cases hd : P.underlying t with
    | none => rw [hd] at hok; cases hok
    | some d =>
      rw [hd] at hok
      cases d <;> simp only [Bool.false_eq_true] at hok
      case bool =>
        obtain ⟨b, rfl, _⟩ := DataW.trod_bool hd htr
        exact ⟨φ, m, [.bool b], hi, hr, Ren.le_refl φ, m.sub_refl, VRs.cons (.bool b) (VRs.nil φ), by unfold WTB; rw [hd]; exact ⟨b, rfl⟩⟩
      case int k =>
        obtain ⟨z, rfl, _, hw⟩ := DataW.trod_int hd htr
        exact ⟨φ, m, [.int k z], hi, hr, Ren.le_refl φ, m.sub_refl, VRs.cons (.int k z) (VRs.nil φ), by unfold WTB; rw [hd]; exact ⟨z, rfl, hw⟩⟩
      case string =>
        obtain ⟨s, rfl, rfl, _⟩ := DataW.trod_string hd htr
        have hw : s.size ≤ B := hwt s.data.toList.length (by simp [DataW.weights])
        exact ⟨φ, m, [.string s], hi, hr, Ren.le_refl φ, m.sub_refl, VRs.cons (.string s) (VRs.nil φ), by unfold WTB; rw [hd]; exact ⟨s, rfl, hw⟩⟩
      case slice e =>
        simp only [Bool.and_eq_true, beq_iff_eq, bne_iff_ne, ne_eq] at hok
        obtain ⟨⟨_, hs⟩, hoe⟩ := hok
        rcases DataW.trod_slice hd htr with ⟨rfl, _⟩ | ⟨a, len, cap, elems, rest, k, rfl, rfl, rfl, _, hl, hm, hlen, hel, hsp, _⟩
        · exact ⟨φ, m, [.slice none 0 0], hi, hr, Ren.le_refl φ, m.sub_refl, VRs.cons .sliceNil (VRs.nil φ), by unfold WTB; rw [hd]; exact .inl rfl⟩
        · by_cases h0 : cap = 0
          · subst h0
            obtain rfl : len = 0 := by omega
            exact ⟨φ, ⟨m.next + 1, m.t⟩, [.slice (some ⟨m.next, 0, none⟩) 0 0], ⟨hi.live, hi.apart, fun b l hl => by have := hi.below b l hl; exact ⟨by show b < m.next + 1; omega, this.2⟩⟩, hr, Ren.le_refl φ, ⟨fun _ _ h => h, Nat.le_succ _⟩,
              VRs.cons (.sliceZero m.next 0 a) (VRs.nil φ), by unfold WTB; rw [hd]; exact .inr (.inl ⟨m.next, 0, rfl, Nat.lt_succ_self _⟩)⟩
          · obtain ⟨hrl, hrest⟩ := hsp rfl
            have hmB : cap * P.bytesOf e ≤ B := by
              have := hwt ((elems.length + rest.length) * P.bytesOf e) (by simp [DataW.weights, hd])
              rw [show elems.length + rest.length = cap by omega] at this
              exact this
            have hwe : ∀ y ∈ elems, ∀ z ∈ y.1.weights P e, z ≤ B := fun y hy z hz => hwt z (by
              simp only [DataW.weights, hd, List.mem_cons, List.mem_append]
              exact .inr (.inl (weights_mem_all (List.mem_map_of_mem hy) z hz)))
            have hwr : ∀ y ∈ rest, ∀ z ∈ y.1.weights P e, z ≤ B := fun y hy z hz => hwt z (by
              simp only [DataW.weights, hd, List.mem_cons, List.mem_append]
              exact .inr (.inr (weights_mem_all (List.mem_map_of_mem hy) z hz)))
            have each : ∀ i, i < cap → ∃ ci y, W.cells? 0 (a.add (i * P.cellsOf e)) (P.cellsOf e) = some ci ∧ DataW.trod enc P W 0 (fun _ => true) true k e ci = some y ∧ ∀ z ∈ y.1.weights P e, z ≤ B := by
              intro i hi
              by_cases hil : i < len
              · have := hel i hil
                rw [List.getElem?_eq_getElem (by omega), Option.bind_eq_some_iff] at this
                obtain ⟨ci, h1, h2⟩ := this
                exact ⟨ci, _, h1, h2, hwe _ (List.getElem_mem _)⟩
              · have := hrest (i - len) (by omega)
                rw [show len + (i - len) = i by omega, List.getElem?_eq_getElem (by omega), Option.bind_eq_some_iff] at this
                obtain ⟨ci, h1, h2⟩ := this
                exact ⟨ci, _, h1, h2, hwr _ (List.getElem_mem _)⟩
            let items : List (TypeId × List Value) := (List.range cap).map fun i => (e, (W.cells? 0 (a.add (i * P.cellsOf e)) (P.cellsOf e)).getD [])
            have hitem : ∀ (i : Nat) it, items[i]? = some it → i < cap ∧ it.1 = e ∧ W.cells? 0 (a.add (i * P.cellsOf e)) (P.cellsOf e) = some it.2 := by
              intro i it hit
              rcases Nat.lt_or_ge i cap with hic | hic
              · obtain ⟨ci, y, h1, _, _⟩ := each i hic
                have : items[i]? = some (e, (W.cells? 0 (a.add (i * P.cellsOf e)) (P.cellsOf e)).getD []) := by simp [items, hic]
                rw [this] at hit; cases hit
                exact ⟨hic, rfl, by rw [h1]; rfl⟩
              · rw [List.getElem?_eq_none (by simp [items]; omega)] at hit; cases hit
            obtain ⟨φ1, m1, outs, i1, r1, l1, s1, e1, a1⟩ := many_abs items (fun it hit => by
              obtain ⟨i, hi'⟩ := List.getElem?_of_mem hit
              obtain ⟨hc, he, hcs⟩ := hitem i it hi'
              obtain ⟨ci, y, h1, h2, h3⟩ := each i hc
              rw [h1] at hcs; cases hcs
              rw [he]
              exact ih k e it.2 y hoe h2 h3) φ m hi hr
            have hil : items.length = cap := by simp [items]
            have hol : outs.length = cap := by rw [e1, hil]
            have hget : ∀ (i : Nat), i < cap → ∃ (o ci : List Value), outs[i]? = some o ∧ items[i]? = some (e, ci) ∧ W.cells? 0 (a.add (i * P.cellsOf e)) (P.cellsOf e) = some ci ∧ VRs φ1 o ci ∧ WTB P B m1 n e o ∧ o.length = P.cellsOf e := by
              intro i hi'
              have ho : outs[i]? = some (outs[i]'(by omega)) := List.getElem?_eq_getElem (by omega)
              have hit : items[i]? = some (items[i]'(by omega)) := List.getElem?_eq_getElem (by omega)
              obtain ⟨_, h1, h2⟩ := hitem i _ hit
              obtain ⟨v, wt⟩ := a1 i _ _ hit ho
              have hcl := (World.cells?_some h2).2.1
              refine ⟨_, (items[i]'(by omega)).2, ho, hit.trans (congrArg some (Prod.ext h1 rfl)), h2, v, Eq.mp (congrArg (fun tt => WTB P B m1 n tt _) h1) wt, by rw [v.1, hcl]⟩
            have hlens : ∀ o ∈ outs, o.length = P.cellsOf e := by
              intro o ho
              obtain ⟨i, hi'⟩ := List.getElem?_of_mem ho
              have hic : i < cap := by
                rcases Nat.lt_or_ge i cap with h | h
                · exact h
                · rw [List.getElem?_eq_none (by omega)] at hi'; cases hi'
              obtain ⟨o', ci, h1, _, _, _, _, h2⟩ := hget i hic
              rw [hi'] at h1; cases h1; exact h2
            have hfl := flatten_len hlens
            -- the machine's cell at each place
            have hcell : ∀ j, j < cap * P.cellsOf e → ∃ v V, outs.flatten[j]? = some v ∧ W.cell? (a.add j) = some V ∧ VR φ1 v V := by
              intro j hj
              have hpos : 0 < P.cellsOf e := by omega
              have hq : j / P.cellsOf e < cap := Nat.div_lt_of_lt_mul (by rw [Nat.mul_comm]; exact hj)
              have hrm : j % P.cellsOf e < P.cellsOf e := Nat.mod_lt _ hpos
              have hj' : j / P.cellsOf e * P.cellsOf e + j % P.cellsOf e = j := by rw [Nat.mul_comm]; exact Nat.div_add_mod j (P.cellsOf e)
              obtain ⟨o, ci, h1, h2, h3, h4, h5, h6⟩ := hget _ hq
              obtain ⟨g1, g2, g3⟩ := World.cells?_some h3
              have hpiece := flatten_piece hlens _ o h1
              have hov : o[j % P.cellsOf e]? = some (o[j % P.cellsOf e]'(by omega)) := List.getElem?_eq_getElem (by omega)
              obtain ⟨V, hV, r⟩ := h4.get hov
              refine ⟨_, V, ?_, ?_, r⟩
              · have : outs.flatten[j]? = o[j % P.cellsOf e]? := by
                  rw [← hpiece, List.getElem?_take_of_lt hrm, List.getElem?_drop, hj']
                rw [this]; exact hov
              · have := g3 _ hrm
                rw [hV] at this
                rw [← this]
                congr 1
                unfold Addr.add
                by_cases z1 : j / P.cellsOf e * P.cellsOf e = 0
                · rw [if_pos z1]
                  have : j % P.cellsOf e = j := by omega
                  rw [this]
                · rw [if_neg z1, if_neg (by omega)]
                  by_cases z2 : j % P.cellsOf e = 0
                  · rw [if_pos z2]; simp only [Addr.mk.injEq, and_true, true_and]; omega
                  · rw [if_neg z2]; simp only [Addr.mk.injEq, and_true, true_and]; omega
            have hpos0 : 0 < cap * P.cellsOf e := Nat.mul_pos (by omega) (by omega)
            obtain ⟨v0, V0, _, hV0, _⟩ := hcell 0 hpos0
            have ha0 : a.add 0 = a := by simp [Addr.add]
            rw [ha0] at hV0
            have hheap : ∃ C e' fz, W.heap[a.block]? = some (.cells C e' fz) ∧ a.spot = none := by
              unfold World.cell? at hV0
              cases hh : W.heap[a.block]? with
              | none => rw [hh] at hV0; cases hV0
              | some o =>
                rw [hh] at hV0
                cases o <;> simp only at hV0 <;> try (cases hV0; done)
                rename_i C e' fz
                refine ⟨C, e', fz, rfl, ?_⟩
                cases hsp : a.spot with
                | none => rfl
                | some _ => rw [hsp] at hV0; simp at hV0
            obtain ⟨C, e', fz, hh, hspot⟩ := hheap
            have haddr : a = ⟨a.block, a.off, none⟩ := by cases a; simp at hspot; simp [hspot]
            have hok1 : BlkOk φ1 W ⟨.cells outs.flatten e, true, none⟩ ⟨a.block, a.off, none, 0⟩ := by
              refine ⟨⟨rfl, fun h => (by cases h)⟩, C, e', fz, hh, fun i v hv => ?_, (fun h => by cases h), (fun h => by cases h), (fun s h => by cases h), (fun h => by cases h)⟩
              have hil2 : i < cap * P.cellsOf e := by
                rcases Nat.lt_or_ge i (cap * P.cellsOf e) with h | h
                · exact h
                · rw [List.getElem?_eq_none (by rw [hfl, hol]; exact h)] at hv; cases hv
              obtain ⟨v', V, h1, h2, r⟩ := hcell i hil2
              rw [hv] at h1; cases h1
              refine ⟨V, ?_, r⟩
              rw [haddr, add_mk, cell?_of_heap hh] at h2
              exact h2
            have hblk : a.block < W.heap.size := by
              rcases Nat.lt_or_ge a.block W.heap.size with h | h
              · exact h
              · rw [Array.getElem?_eq_none h] at hh; cases hh
            obtain ⟨i2, r2, l2, s2⟩ := i1.addRo r1 ⟨.cells outs.flatten e, true, none⟩ ⟨a.block, a.off, none, 0⟩ rfl hblk hok1
            refine ⟨_, _, [.slice (some ⟨m1.next, 0, none⟩) len cap], i2, r2, Ren.le_trans l1 l2, Mem.sub_trans s1 s2, ?_, ?_⟩
            · refine VRs.cons ?_ (VRs.nil _)
              rw [haddr]
              exact VR.sliceEx m1.next 0 len cap ⟨a.block, a.off, none, 0⟩ (Ren.set_self ..) rfl
            · unfold WTB
              rw [hd]
              refine .inr (.inr ⟨m1.next, len, cap, outs.flatten, e, rfl, by simp, hl, ⟨hm, hmB⟩, by rw [Mem.get_add, if_pos rfl], by rw [hfl, hol], fun i hi' => ?_⟩)
              obtain ⟨o, ci, h1, h2, h3, h4, h5, h6⟩ := hget i hi'
              rw [flatten_piece hlens i o h1]
              exact h5.mono s2
      case array k e =>
        simp only [Bool.and_eq_true, beq_iff_eq] at hok
        obtain ⟨hsz, hoe⟩ := hok
        obtain ⟨xs, j, rfl, rfl, hcl, hxl, hx⟩ := DataW.trod_array hd htr
        rw [hsz] at hcl
        let items : List (TypeId × List Value) := (List.range k).map fun i => (e, (cs.drop (i * P.cellsOf e)).take (P.cellsOf e))
        have hit : ∀ (i : Nat), i < k → items[i]? = some (e, (cs.drop (i * P.cellsOf e)).take (P.cellsOf e)) := by
          intro i hi'; simp [items, hi']
        have hil : items.length = k := by simp [items]
        have hpl : ∀ i, i < k → ((cs.drop (i * P.cellsOf e)).take (P.cellsOf e)).length = P.cellsOf e := by
          intro i hi'
          have : (i + 1) * P.cellsOf e ≤ k * P.cellsOf e := Nat.mul_le_mul_right _ hi'
          rw [Nat.add_mul] at this
          simp only [List.length_take, List.length_drop, hcl]; omega
        obtain ⟨φ1, m1, outs, i1, r1, l1, s1, e1, a1⟩ := many_abs items (fun it hm => by
          obtain ⟨i, hi'⟩ := List.getElem?_of_mem hm
          have hik : i < k := by
            rcases Nat.lt_or_ge i k with h | h
            · exact h
            · rw [List.getElem?_eq_none (by omega)] at hi'; cases hi'
          rw [hit i hik] at hi'; cases hi'
          have h1 := hx i hik
          rw [List.getElem?_eq_getElem (by omega)] at h1
          exact ih j e _ _ hoe h1 (fun z hz => hwt z (by
            simp only [DataW.weights, hd]
            exact weights_mem_all (List.mem_map_of_mem (List.getElem_mem _)) z hz))) φ m hi hr
        have hol : outs.length = k := by rw [e1, hil]
        have hget : ∀ (i : Nat), i < k → ∃ (o : List Value), outs[i]? = some o ∧ VRs φ1 o ((cs.drop (i * P.cellsOf e)).take (P.cellsOf e)) ∧ WTB P B m1 n e o := by
          intro i hi'
          have ho : outs[i]? = some (outs[i]'(by omega)) := List.getElem?_eq_getElem (by omega)
          obtain ⟨v, wt⟩ := a1 i _ _ (hit i hi') ho
          exact ⟨_, ho, v, wt⟩
        have hlens : ∀ o ∈ outs, o.length = P.cellsOf e := by
          intro o ho
          obtain ⟨i, hi'⟩ := List.getElem?_of_mem ho
          have hic : i < k := by
            rcases Nat.lt_or_ge i k with h | h
            · exact h
            · rw [List.getElem?_eq_none (by omega)] at hi'; cases hi'
          obtain ⟨o', h1, h2, _⟩ := hget i hic
          rw [hi'] at h1; cases h1
          rw [h2.1, hpl i hic]
        have hcut : ((List.range k).map fun i => (cs.drop (i * P.cellsOf e)).take (P.cellsOf e)).flatten = cs := by
          have key : ∀ (k : Nat) (cs : List Value), cs.length = k * P.cellsOf e → ((List.range k).map fun i => (cs.drop (i * P.cellsOf e)).take (P.cellsOf e)).flatten = cs := by
            intro k
            induction k with
            | zero => intro cs h; simp at h; simp [h]
            | succ k ihk =>
              intro cs h
              rw [List.range_succ_eq_map, List.map_cons, List.flatten_cons, List.map_map]
              have h2 := ihk (cs.drop (P.cellsOf e)) (by rw [List.length_drop, h, Nat.add_mul]; omega)
              have h3 : ((fun i => (cs.drop (i * P.cellsOf e)).take (P.cellsOf e)) ∘ Nat.succ) = fun i => ((cs.drop (P.cellsOf e)).drop (i * P.cellsOf e)).take (P.cellsOf e) := by
                funext i
                simp only [Function.comp, List.drop_drop]
                congr 2
                rw [Nat.succ_mul]; omega
              rw [h3, h2]
              simp
          exact key k cs hcl
        refine ⟨φ1, m1, outs.flatten, i1, r1, l1, s1, ?_, ?_⟩
        · have := VRs.flatten (φ := φ1) (xs := outs) (ys := (List.range k).map fun i => (cs.drop (i * P.cellsOf e)).take (P.cellsOf e)) (by simp [hol]) (fun i x y hx' hy => by
            have hic : i < k := by
              rcases Nat.lt_or_ge i k with h | h
              · exact h
              · rw [List.getElem?_eq_none (by omega)] at hx'; cases hx'
            obtain ⟨o', h1, h2, _⟩ := hget i hic
            rw [hx'] at h1; cases h1
            simp only [List.getElem?_map, List.getElem?_range hic, Option.map_some, Option.some.injEq] at hy
            subst hy; exact h2)
          rw [hcut] at this; exact this
        · unfold WTB
          rw [hd]
          refine ⟨by rw [flatten_len hlens, hol], fun i hi' => ?_⟩
          obtain ⟨o, h1, h2, h3⟩ := hget i hi'
          rw [flatten_piece hlens i o h1]; exact h3
      case struct fs =>
        simp only [Bool.and_eq_true, List.all_eq_true] at hok
        obtain ⟨htile, hof⟩ := hok
        obtain ⟨xs, j, rfl, rfl, hcl, hxl, hx⟩ := DataW.trod_struct hd htr
        have hbd := (tile_bound (P := P) fs.toList 0 _ htile).2
        let items : List (TypeId × List Value) := fs.toList.map fun f => (f.type, (cs.drop f.offset).take (P.cellsOf f.type))
        have hit : ∀ (i : Nat) f, fs.toList[i]? = some f → items[i]? = some (f.type, (cs.drop f.offset).take (P.cellsOf f.type)) := by
          intro i f hf
          simp only [items, List.getElem?_map, hf, Option.map_some]
        have hil : items.length = fs.toList.length := by simp [items]
        have hpl : ∀ f ∈ fs.toList, ((cs.drop f.offset).take (P.cellsOf f.type)).length = P.cellsOf f.type := by
          intro f hf
          have := (hbd f hf).2
          simp only [List.length_take, List.length_drop, hcl]; omega
        obtain ⟨φ1, m1, outs, i1, r1, l1, s1, e1, a1⟩ := many_abs items (fun it hm => by
          obtain ⟨i, hi'⟩ := List.getElem?_of_mem hm
          have hik : i < fs.toList.length := by
            rcases Nat.lt_or_ge i fs.toList.length with h | h
            · exact h
            · rw [List.getElem?_eq_none (by omega)] at hi'; cases hi'
          have hf : fs.toList[i]? = some (fs.toList[i]) := List.getElem?_eq_getElem hik
          rw [hit i _ hf] at hi'; cases hi'
          have h1 := hx i fs.toList[i] (by simp)
          rw [List.getElem?_eq_getElem (by rw [hxl]; simpa using hik)] at h1
          exact ih j _ _ _ (hof _ (List.getElem_mem hik)) h1 (fun z hz => hwt z (by
            simp only [DataW.weights, hd]
            exact DataW.weights_mem_each (j := i) (by rw [List.getElem?_map, hf]; rfl) (by rw [List.getElem?_map, List.getElem?_eq_getElem (by rw [hxl]; simpa using hik)]; rfl) z hz))) φ m hi hr
        have hol : outs.length = fs.toList.length := by rw [e1, hil]
        have hget : ∀ (i : Nat) f, fs.toList[i]? = some f → ∃ (o : List Value), outs[i]? = some o ∧ VRs φ1 o ((cs.drop f.offset).take (P.cellsOf f.type)) ∧ WTB P B m1 n f.type o ∧ o.length = P.cellsOf f.type := by
          intro i f hf
          have hik : i < fs.toList.length := by
            rcases Nat.lt_or_ge i fs.toList.length with h | h
            · exact h
            · rw [List.getElem?_eq_none h] at hf; cases hf
          have ho : outs[i]? = some (outs[i]'(by omega)) := List.getElem?_eq_getElem (by omega)
          obtain ⟨v, wt⟩ := a1 i _ _ (hit i f hf) ho
          exact ⟨_, ho, v, wt, by rw [v.1]; exact hpl f (List.mem_of_getElem? hf)⟩
        have hlens : ∀ (i : Nat) f o, fs.toList[i]? = some f → outs[i]? = some o → o.length = P.cellsOf f.type := by
          intro i f o hf ho
          obtain ⟨o', h1, _, _, h2⟩ := hget i f hf
          rw [ho] at h1; cases h1; exact h2
        have hcut := tile_flatten (P := P) fs.toList 0 _ cs htile hcl
        rw [List.drop_zero] at hcut
        refine ⟨φ1, m1, outs.flatten, i1, r1, l1, s1, ?_, ?_⟩
        · have := VRs.flatten (φ := φ1) (xs := outs) (ys := fs.toList.map fun f => (cs.drop f.offset).take (P.cellsOf f.type)) (by simp [hol]) (fun i x y hx' hy => by
            simp only [List.getElem?_map, Option.map_eq_some_iff] at hy
            obtain ⟨f, hf, rfl⟩ := hy
            obtain ⟨o', h1, h2, _⟩ := hget i f hf
            rw [hx'] at h1; cases h1
            exact h2)
          rw [hcut] at this; exact this
        · unfold WTB
          rw [hd]
          have htot := tile_total (P := P) fs.toList outs 0 _ htile hol hlens
          refine ⟨by omega, fun f hf => ?_⟩
          obtain ⟨i, hi'⟩ := List.getElem?_of_mem hf
          obtain ⟨o, h1, _, h3, _⟩ := hget i f hi'
          have := tile_piece (P := P) fs.toList outs 0 _ [] htile hol hlens rfl i f o hi' h1
          rw [List.nil_append] at this
          rw [this]; exact h3

theorem abs_value {n : Nat} {t : TypeId} {v : Value} (h : Abs1 P B W n t v.cells.toList) : ∀ φ m, Inv φ m W → AllRo m →
    ∃ φ' m' a, Inv φ' m' W ∧ AllRo m' ∧ Ren.le φ φ' ∧ m.sub m' ∧ VR φ' a v ∧ WTB P B m' n t a.cells.toList := by
  intro φ m hi hr
  obtain ⟨φ', m', acs, h1, h2, h3, h4, h5, h6⟩ := h φ m hi hr
  have one : v.cells = #[v] → (∀ ys, v ≠ .agg ys) → ∃ φ' m' a, Inv φ' m' W ∧ AllRo m' ∧ Ren.le φ φ' ∧ m.sub m' ∧ VR φ' a v ∧ WTB P B m' n t a.cells.toList := by
    intro hv hna
    rw [hv] at h5
    cases acs with
    | nil => have := h5.1; simp at this
    | cons a r =>
      have : r = [] := by have := h5.1; simpa using this
      subst this
      have hav : VR φ' a v := h5.2 0 a v rfl (by simp)
      refine ⟨φ', m', a, h1, h2, h3, h4, hav, ?_⟩
      have : a.cells = #[a] := by
        cases hav <;> first
          | rfl
          | exact absurd rfl (hna _)
      rw [this]; exact h6
  cases v with
  | agg xs =>
    refine ⟨φ', m', .agg acs.toArray, h1, h2, h3, h4, ?_, by simpa [Value.cells] using h6⟩
    have := h5.agg
    simpa [Value.cells] using this
  | _ => exact one rfl (by intro ys h; cases h)

theorem args_abs {n : Nat} : ∀ {ts : List TypeId} {vs : List Value} {ds : List (DataW H)} {ps : List MemPlace}, DataW.TrodAll enc P W 0 (fun _ => true) true ts vs ds ps → (∀ (j : Nat) t d, ts[j]? = some t → ds[j]? = some d → ∀ z ∈ d.weights P t, z ≤ B) → (∀ t ∈ ts, okT P n t = true) → ∀ φ m, Inv φ m W → AllRo m →
    ∃ (φ' : Ren) (m' : Mem) (args : List Value), Inv φ' m' W ∧ AllRo m' ∧ Ren.le φ φ' ∧ m.sub m' ∧ VRs φ' args vs ∧ args.length = ts.length ∧ ∀ (i : Nat) t (a : Value), ts[i]? = some t → args[i]? = some a → WTB P B m' n t a.cells.toList
  | [], [], [], _, _, _, _, φ, m, hi, hr => ⟨φ, m, [], hi, hr, Ren.le_refl φ, m.sub_refl, VRs.nil φ, rfl, fun i t a h => by simp at h⟩
  | t :: ts, v :: vs, d :: ds, ps, h, hw, hok, φ, m, hi, hr => by
    obtain ⟨p, q, ⟨fuel, h1⟩, h2, _⟩ := h
    obtain ⟨φ1, m1, a, i1, r1, l1, s1, v1, w1⟩ := abs_value (trod_abs (P := P) (W := W) n fuel t v.cells.toList _ (hok t (List.mem_cons_self ..)) h1 (hw 0 t d rfl rfl)) φ m hi hr
    obtain ⟨φ2, m2, args, i2, r2, l2, s2, v2, e2, w2⟩ := args_abs h2 (fun j t d ht hd => hw (j + 1) t d (by simpa using ht) (by simpa using hd)) (fun x hx => hok x (List.mem_cons_of_mem _ hx)) φ1 m1 i1 r1
    refine ⟨φ2, m2, a :: args, i2, r2, Ren.le_trans l1 l2, Mem.sub_trans s1 s2, VRs.cons (v1.mono l2) v2, by simp [e2], fun i u b hu hb => ?_⟩
    cases i with
    | zero => simp at hu hb; subst hu; subst hb; exact w1.mono s2
    | succ i => exact w2 i u b (by simpa using hu) (by simpa using hb)
  | [], _ :: _, _, _, h, _, _, _, _, _, _ => by simp [DataW.TrodAll] at h
  | [], [], _ :: _, _, h, _, _, _, _, _, _ => by simp [DataW.TrodAll] at h
  | _ :: _, [], _, _, h, _, _, _, _, _, _ => by simp [DataW.TrodAll] at h
  | _ :: _, _ :: _, [], _, h, _, _, _, _, _, _ => by simp [DataW.TrodAll] at h

theorem Inv.empty (W : World) : Inv (fun _ => none) ⟨0, .leaf⟩ W :=
  ⟨fun b x h => by simp [Mem.get, Trie.get] at h, fun b c x y l k h => by simp [Mem.get, Trie.get] at h, fun b l h => by cases h⟩

theorem allRo_empty : AllRo ⟨0, .leaf⟩ := fun b x h => by simp [Mem.get, Trie.get] at h

theorem Frm.below {φ φ' : Ren} {m m' : Mem} {w w' : World} (h : Frm φ m w φ' m' w') (hr : AllRo m) : Go.RowKit.Below w.heap.size w w' :=
  ⟨h.os, h.tape, h.output, h.size, fun k hk => h.same k hk (fun b x l hb _ hx => by rw [hr b x hb] at hx; cases hx)⟩

/-- The listed package-level variables, a read-only block each. -/
def addGlobs : Mem → List (Nat × GKind) → Mem
  | m, [] => m
  | m, p :: r => addGlobs (m.add ⟨.glob p.1 p.2, true, none⟩) r
def GlobsOk (W : World) (gs : List (Nat × GKind)) : Prop := ∀ p ∈ gs, ∃ C e fz, W.heap[p.1]? = some (.cells C e fz) ∧ p.2.Ok C
theorem globs_inv : ∀ (gs : List (Nat × GKind)) (φ : Ren) (m : Mem), Inv φ m W → AllRo m → GlobsOk W gs → ∃ φ', Inv φ' (addGlobs m gs) W ∧ AllRo (addGlobs m gs) ∧ Ren.le φ φ' ∧ m.sub (addGlobs m gs)
  | [], φ, m, hi, hr, _ => ⟨φ, hi, hr, Ren.le_refl φ, m.sub_refl⟩
  | p :: r, φ, m, hi, hr, hg => by
    obtain ⟨C, e, fz, hC, hk⟩ := hg p (List.mem_cons_self ..)
    have hlt : p.1 < W.heap.size := (Array.getElem?_eq_some_iff.1 hC).1
    obtain ⟨i1, r1, l1, s1⟩ := hi.addRo hr ⟨.glob p.1 p.2, true, none⟩ ⟨p.1, 0, none, 0⟩ rfl hlt ⟨⟨rfl, fun h => (by cases h)⟩, rfl, C, e, fz, hC, hk⟩
    obtain ⟨φ2, i2, r2, l2, s2⟩ := globs_inv r _ _ i1 r1 (fun q hq => hg q (List.mem_cons_of_mem _ hq))
    exact ⟨φ2, i2, r2, Ren.le_trans l1 l2, Mem.sub_trans s1 s2⟩
def globMem (gs : List (Nat × GKind)) : Mem := addGlobs ⟨0, .leaf⟩ gs
theorem addGlobs_get : ∀ (gs : List (Nat × GKind)) (m : Mem), (∀ b, m.next ≤ b → m.get b = none) → ∀ (i : Nat) p, gs[i]? = some p → (addGlobs m gs).get (m.next + i) = some ⟨.glob p.1 p.2, true, none⟩
  | [], _, _, i, p, h => by simp at h
  | q :: r, m, hm, i, p, h => by
    have key : ∀ (gs : List (Nat × GKind)) (m : Mem) (b : Nat) (x : ABlk), b < m.next → m.get b = some x → (addGlobs m gs).get b = some x := by
      intro gs
      induction gs with
      | nil => intro m b x _ h; exact h
      | cons q r ih => intro m b x hb h; exact ih _ _ _ (by simp; omega) (by rw [Mem.get_add, if_neg (by omega)]; exact h)
    cases i with
    | zero =>
      simp only [List.getElem?_cons_zero, Option.some.injEq] at h
      subst h
      exact key r _ _ _ (by simp) (by rw [Nat.add_zero, Mem.get_add, if_pos rfl])
    | succ i =>
      have := addGlobs_get r (m.add ⟨.glob q.1 q.2, true, none⟩) (fun b hb => by rw [Mem.get_add, if_neg (by simp at hb; omega)]; exact hm b (by simp at hb; omega)) i p (by simpa using h)
      rw [Mem.next_add] at this
      rw [show m.next + (i + 1) = m.next + 1 + i by omega]; exact this
theorem globMem_get (gs : List (Nat × GKind)) (i : Nat) (p : Nat × GKind) (h : gs[i]? = some p) : (globMem gs).get i = some ⟨.glob p.1 p.2, true, none⟩ := by
  have := addGlobs_get gs ⟨0, .leaf⟩ (fun b _ => rfl) i p h
  simpa [globMem] using this

/-- A closed run, out of nothing, that answers a value without an address: so the call answers wherever it is made, and nothing that is told of has turned. -/
theorem closed_calls {tab : Tab} (hm : P.follows .mixedOrders = true) (htab : TabOk P tab) (hgood : ∀ f x, tab f = some x → goodFn P f = true) {f : FuncId} {N : Nat} {m0 : Mem} (h : call noS tab N f [] ⟨0, .leaf⟩ = some (.bool true, m0)) :
    ∀ (φ : Ren) (m : Mem) (w : World) (ARGS : Array Value), Inv φ m w → VRs φ [] ARGS.toList → Calls1 P φ m w f ARGS (.bool true) m := by
  intro φ m w ARGS hi ha
  have hA : ARGS = #[] := by have := ha.1; simp at this; exact Array.eq_empty_of_size_eq_zero this.symm
  subst hA
  have hlt : f < yBase := by
    cases N with
    | zero => cases h
    | succ N =>
      simp only [call, noS, Option.bind_eq_some_iff] at h
      obtain ⟨x, hx, _⟩ := h
      exact goodFn_lt (hgood f x hx)
  refine ((sound_call hm (noS_ok P) noS_good htab hgood N).fn f [] ⟨0, .leaf⟩ (.bool true) m0 hlt h (fun _ => none) w #[] (Inv.empty w) (VRs.nil _)).mono ?_
  rintro e w' ⟨V, φ', rfl, hV, _, hf⟩
  cases hV
  have hsame : ∀ B, B < w.heap.size → w'.heap[B]? = w.heap[B]? := fun B hB => hf.same B hB (fun b x l hb => by simp [Mem.get, Trie.get] at hb)
  refine ⟨_, φ, rfl, .bool true, ⟨fun b x hb => ?_, hi.apart, fun b l hl => ?_⟩, ⟨Ren.le_refl φ, hf.size, fun B hB _ => hsame B hB, fun b x l hb hl hr => .inr ⟨b, x, l, hb, hl, hr, rfl⟩, hf.os, hf.output, hf.tape, Nat.le_refl _, fun _ _ => rfl, fun _ _ h => h, fun b x l h h' => .inr ⟨b, x, l, h, h', rfl⟩⟩⟩
  · obtain ⟨l, hl, ok⟩ := hi.live b x hb
    exact ⟨l, hl, ok.congr (hsame l.blk (hi.blk_lt hl))⟩
  · have := hi.below b l hl
    exact ⟨this.1, Nat.lt_of_lt_of_le this.2 hf.size⟩

end

end Go.Fx
