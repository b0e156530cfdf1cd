/- The abstract memory of the framework Fx: blocks without addresses, capacities and draws; how it is held against the machine's world. -/
import Derived.Calls
import Derived.Laws.Sem
namespace Go.Fx
open Go
set_option linter.unusedSimpArgs false
set_option linter.unusedVariables false

/- room, told without counting a row to its end -/
def fits : List Value → Nat → Bool
  | _, 0 => true
  | [], _ + 1 => false
  | _ :: c, k + 1 => fits c k
theorem fits_iff : ∀ (c : List Value) (k : Nat), fits c k = true ↔ k ≤ c.length
  | c, 0 => by simp [fits]
  | [], k + 1 => by simp [fits]
  | _ :: c, k + 1 => by simp only [fits, fits_iff c k, List.length_cons]; omega
theorem room_iff (a b : Nat) (c : List Value) : fits (c.drop a) (b + 1) = true ↔ a + (b + 1) ≤ c.length := by
  rw [fits_iff, List.length_drop]; omega
instance (priority := high) decRoom (a : Nat) (c : List Value) : (b : Nat) → Decidable (a + b ≤ c.length)
  | 0 => Nat.decLe ..
  | b + 1 => decidable_of_iff _ (room_iff a b c)

inductive Trie (α : Type) where
  | leaf
  | node (v : Option α) (l r : Trie α)

def Trie.get {α : Type} : Trie α → Nat → Option α
  | .leaf, _ => none
  | .node v l r, k => if k = 0 then v else if k % 2 = 1 then l.get (k / 2) else r.get (k / 2 - 1)

def Trie.setF {α : Type} : Nat → Trie α → Nat → Option α → Trie α
  | 0, t, _, _ => t
  | f + 1, .leaf, k, x =>
    if k = 0 then .node x .leaf .leaf
    else if k % 2 = 1 then .node none (Trie.setF f .leaf (k / 2) x) .leaf
    else .node none .leaf (Trie.setF f .leaf (k / 2 - 1) x)
  | f + 1, .node v l r, k, x =>
    if k = 0 then .node x l r
    else if k % 2 = 1 then .node v (Trie.setF f l (k / 2) x) r
    else .node v l (Trie.setF f r (k / 2 - 1) x)

def Trie.set {α : Type} (t : Trie α) (k : Nat) (x : Option α) : Trie α := Trie.setF (k + 1) t k x

theorem Trie.get_setF {α : Type} (x : Option α) : ∀ (f : Nat) (t : Trie α) (k j : Nat), k < f →
    (Trie.setF f t k x).get j = if j = k then x else t.get j := by
  intro f
  induction f with
  | zero => intro t k j h; omega
  | succ f ih =>
    intro t k j h
    cases t with
    | leaf =>
      simp only [Trie.setF]
      by_cases hk : k = 0
      · subst hk
        simp only [if_true, Trie.get]
        by_cases hj : j = 0 <;> simp [hj]
      · rw [if_neg hk]
        by_cases hp : k % 2 = 1
        · rw [if_pos hp]
          simp only [Trie.get]
          by_cases hj : j = 0
          · rw [if_pos hj, if_neg (by omega)]
          · rw [if_neg hj]
            by_cases hq : j % 2 = 1
            · rw [if_pos hq, ih _ _ _ (by omega)]
              by_cases e : j = k
              · subst e; simp
              · rw [if_neg (by omega), if_neg e]; rfl
            · rw [if_neg hq, if_neg (by omega)]
        · rw [if_neg hp]
          simp only [Trie.get]
          by_cases hj : j = 0
          · rw [if_pos hj, if_neg (by omega)]
          · rw [if_neg hj]
            by_cases hq : j % 2 = 1
            · rw [if_pos hq, if_neg (by omega)]
            · rw [if_neg hq, ih _ _ _ (by omega)]
              by_cases e : j = k
              · subst e; simp
              · rw [if_neg (by omega), if_neg e]; rfl
    | node v l r =>
      simp only [Trie.setF]
      by_cases hk : k = 0
      · subst hk
        simp only [if_true, Trie.get]
        by_cases hj : j = 0
        · simp [hj]
        · simp [hj]
      · rw [if_neg hk]
        by_cases hp : k % 2 = 1
        · rw [if_pos hp]
          simp only [Trie.get]
          by_cases hj : j = 0
          · rw [if_pos hj, if_neg (by omega), if_pos hj]
          · rw [if_neg hj, if_neg hj]
            by_cases hq : j % 2 = 1
            · rw [if_pos hq, if_pos hq, ih _ _ _ (by omega)]
              by_cases e : j = k
              · subst e; simp
              · rw [if_neg (by omega), if_neg e]
            · rw [if_neg hq, if_neg hq, if_neg (by omega)]
        · rw [if_neg hp]
          simp only [Trie.get]
          by_cases hj : j = 0
          · rw [if_pos hj, if_neg (by omega), if_pos hj]
          · rw [if_neg hj, if_neg hj]
            by_cases hq : j % 2 = 1
            · rw [if_pos hq, if_pos hq, if_neg (by omega)]
            · rw [if_neg hq, if_neg hq, ih _ _ _ (by omega)]
              by_cases e : j = k
              · subst e; simp
              · rw [if_neg (by omega), if_neg e]

theorem Trie.get_set {α : Type} (t : Trie α) (k j : Nat) (x : Option α) : (t.set k x).get j = if j = k then x else t.get j :=
  Trie.get_setF x (k + 1) t k j (by omega)

/-- What is known of a package-level variable that is never written: its plain cells; that it holds an error or nil; that it holds an int. -/
inductive GKind where
  | tab (c : List Value)
  | err
  | num

def GKind.Ok : GKind → Array Value → Prop
  | .tab c, C => C = c.toArray
  | .err, C => ∃ v, C[0]? = some v ∧ (v = .nilIface ∨ ∃ t p, v = .iface t p)
  | .num, C => ∃ n, C[0]? = some (.int .i64 n)

/-- What an abstract block holds. -/
inductive AObj where
  | cells (c : List Value) (elem : TypeId)
  | map (es : List MapEntry) (clock : Nat)
  | siter (s : ByteArray) (pos : Nat)
  | glob (g : Nat) (k : GKind)
  /-- the record of a range over a function: what the round's frame begins with, its variables' slots, its code, where it stands -/
  | loopR (ts : List Value) (ps : List Nat) (a b : Code) (st : LoopState) (pend : Option Code)
  | deferR
  /-- sectors: their number, those that are not noughts -/
  | sects (n : Nat) (t : Trie (List UInt8)) (e : TypeId)

/-- A sector's bytes. -/
def sectAt (t : Trie (List UInt8)) (i : Nat) : List UInt8 := (t.get i).getD (List.replicate 64 0)

/-- 'ro': never written, may lie across others of the kind. 'loose': made by an append (its element's cells): it may have more room than is known. -/
structure ABlk where
  obj : AObj
  ro : Bool
  loose : Option Nat

structure Mem where
  next : Nat
  t : Trie ABlk

def Mem.get (m : Mem) (b : Nat) : Option ABlk := m.t.get b
def Mem.put (m : Mem) (b : Nat) (x : ABlk) : Mem := { m with t := m.t.set b (some x) }
def Mem.kill (m : Mem) (b : Nat) : Mem := { m with t := m.t.set b none }
/-- Numbers that are kept for blocks to come. -/
def Mem.bump (m : Mem) (n : Nat) : Mem := { m with next := m.next + n }
def Mem.add (m : Mem) (x : ABlk) : Mem := { next := m.next + 1, t := m.t.set m.next (some x) }

theorem Mem.get_put (m : Mem) (b c : Nat) (x : ABlk) : (m.put b x).get c = if c = b then some x else m.get c := Trie.get_set ..
theorem Mem.get_kill (m : Mem) (b c : Nat) : (m.kill b).get c = if c = b then none else m.get c := Trie.get_set ..
theorem Mem.get_add (m : Mem) (c : Nat) (x : ABlk) : (m.add x).get c = if c = m.next then some x else m.get c := Trie.get_set ..
theorem Mem.get_bump (m : Mem) (n c : Nat) : (m.bump n).get c = m.get c := rfl
@[simp] theorem Mem.next_bump (m : Mem) (n : Nat) : (m.bump n).next = m.next + n := rfl
@[simp] theorem Mem.next_put (m : Mem) (b : Nat) (x : ABlk) : (m.put b x).next = m.next := rfl
@[simp] theorem Mem.next_kill (m : Mem) (b : Nat) : (m.kill b).next = m.next := rfl
@[simp] theorem Mem.next_add (m : Mem) (x : ABlk) : (m.add x).next = m.next + 1 := rfl

/-- Where an abstract block lies: the machine's block, the offset; a loose one's element's cells and the block's size. -/
structure Loc where
  blk : Nat
  base : Nat
  loose : Option Nat
  size : Nat

abbrev Ren := Nat → Option Loc

def Ren.le (φ ψ : Ren) : Prop := ∀ b l, φ b = some l → ψ b = some l
theorem Ren.le_refl (φ : Ren) : Ren.le φ φ := fun _ _ h => h
theorem Ren.le_trans {φ ψ χ : Ren} (h : Ren.le φ ψ) (h' : Ren.le ψ χ) : Ren.le φ χ := fun b l e => h' b l (h b l e)

/-- An abstract value held against the machine's. -/
inductive VR (φ : Ren) : Value → Value → Prop where
  | bool (b : Bool) : VR φ (.bool b) (.bool b)
  | int (k : IntKind) (n : Int) : VR φ (.int k n) (.int k n)
  | string (s : ByteArray) : VR φ (.string s) (.string s)
  | ptrNil : VR φ (.pointer none) (.pointer none)
  | ptr (b off : Nat) (l : Loc) (h : φ b = some l) : VR φ (.pointer (some ⟨b, off, none⟩)) (.pointer (some ⟨l.blk, l.base + off, none⟩))
  | sliceNil : VR φ (.slice none 0 0) (.slice none 0 0)
  | sliceEx (b off len cap : Nat) (l : Loc) (h : φ b = some l) (hl : l.loose = none) :
      VR φ (.slice (some ⟨b, off, none⟩) len cap) (.slice (some ⟨l.blk, l.base + off, none⟩) len cap)
  | sliceLoose (b off len cap off' cap' s : Nat) (l : Loc) (h : φ b = some l) (hl : l.loose = some s) (hoff : cap ≠ 0 → off' = l.base + off) (hlen : len ≤ cap) (hcap : cap ≤ cap')
      (hroom : off' + cap' * s ≤ l.size) : VR φ (.slice (some ⟨b, off, none⟩) len cap) (.slice (some ⟨l.blk, off', none⟩) len cap')
  | sliceZero (b off : Nat) (A : Addr) : VR φ (.slice (some ⟨b, off, none⟩) 0 0) (.slice (some A) 0 0)
  | mapNil : VR φ (.map none) (.map none)
  | map (b : Nat) (l : Loc) (h : φ b = some l) : VR φ (.map (some b)) (.map (some l.blk))
  | nilFunc : VR φ .nilFunc .nilFunc
  | nilIface : VR φ .nilIface .nilIface
  | iface (t : TypeId) (v v' : Value) (h : VR φ v v') : VR φ (.iface t v) (.iface t v')
  | junk (n : Int) : VR φ (.chan (some 0)) (.int .u8 n)
  | func (f : FuncId) (us vs xs ys : Array Value) (hu : us.size = vs.size) (hus : ∀ (i : Nat) (x y : Value), us[i]? = some x → vs[i]? = some y → VR φ x y) (h : xs.size = ys.size) (hs : ∀ (i : Nat) (x y : Value), xs[i]? = some x → ys[i]? = some y → VR φ x y) :
      VR φ (.func (.func f) us xs) (.func (.func f) vs ys)
  | yield (N : Nat) (l : Loc) (h : φ N = some l) : VR φ (.func (.yield N) #[] #[]) (.func (.yield l.blk) #[] #[])
  | agg (xs ys : Array Value) (h : xs.size = ys.size) (hs : ∀ (i : Nat) (x y : Value), xs[i]? = some x → ys[i]? = some y → VR φ x y) : VR φ (.agg xs) (.agg ys)
  | tuple (xs ys : Array Value) (h : xs.size = ys.size) (hs : ∀ (i : Nat) (x y : Value), xs[i]? = some x → ys[i]? = some y → VR φ x y) : VR φ (.tuple xs) (.tuple ys)

theorem VR.mono {φ ψ : Ren} (hle : Ren.le φ ψ) {v v' : Value} (h : VR φ v v') : VR ψ v v' := by
  induction h with
  | bool b => exact .bool b
  | int k n => exact .int k n
  | string s => exact .string s
  | ptrNil => exact .ptrNil
  | ptr b off l h => exact .ptr b off l (hle _ _ h)
  | sliceNil => exact .sliceNil
  | sliceEx b off len cap l h hl => exact .sliceEx b off len cap l (hle _ _ h) hl
  | sliceLoose b off len cap off' cap' s l h hl hoff hlen hcap hroom => exact .sliceLoose b off len cap off' cap' s l (hle _ _ h) hl hoff hlen hcap hroom
  | sliceZero b off A => exact .sliceZero b off A
  | mapNil => exact .mapNil
  | map b l h => exact .map b l (hle _ _ h)
  | nilFunc => exact .nilFunc
  | nilIface => exact .nilIface
  | iface t v v' _ ih => exact .iface t v v' ih
  | junk n => exact .junk n
  | func f us vs xs ys hu _ h _ ihu ih => exact .func f us vs xs ys hu ihu h ih
  | yield N l h => exact .yield N l (hle _ _ h)
  | agg xs ys h _ ih => exact .agg xs ys h ih
  | tuple xs ys h _ ih => exact .tuple xs ys h ih

/-- Lists of values, place by place. -/
def VRs (φ : Ren) (xs ys : List Value) : Prop := xs.length = ys.length ∧ ∀ (i : Nat) (x y : Value), xs[i]? = some x → ys[i]? = some y → VR φ x y

theorem VRs.mono {φ ψ : Ren} (hle : Ren.le φ ψ) {xs ys : List Value} (h : VRs φ xs ys) : VRs ψ xs ys := ⟨h.1, fun i x y hx hy => (h.2 i x y hx hy).mono hle⟩
theorem VRs.nil (φ : Ren) : VRs φ [] [] := ⟨rfl, fun i x y h => by simp at h⟩
theorem VRs.cons {φ : Ren} {x y : Value} {xs ys : List Value} (h : VR φ x y) (hs : VRs φ xs ys) : VRs φ (x :: xs) (y :: ys) := by
  refine ⟨by simp [hs.1], fun i a b ha hb => ?_⟩
  cases i with
  | zero => simp at ha hb; subst ha; subst hb; exact h
  | succ i => exact hs.2 i a b (by simpa using ha) (by simpa using hb)
theorem VRs.get {φ : Ren} {xs ys : List Value} (h : VRs φ xs ys) {i : Nat} {x : Value} (hx : xs[i]? = some x) : ∃ y, ys[i]? = some y ∧ VR φ x y := by
  have hi : i < xs.length := by
    rcases Nat.lt_or_ge i xs.length with h' | h'
    · exact h'
    · rw [List.getElem?_eq_none h'] at hx; cases hx
  have hi' : i < ys.length := h.1 ▸ hi
  exact ⟨ys[i], List.getElem?_eq_getElem hi', h.2 i x _ hx (List.getElem?_eq_getElem hi')⟩
theorem VRs.append {φ : Ren} {xs ys xs' ys' : List Value} (h : VRs φ xs ys) (h' : VRs φ xs' ys') : VRs φ (xs ++ xs') (ys ++ ys') := by
  refine ⟨by simp [h.1, h'.1], fun i a b ha hb => ?_⟩
  by_cases hi : i < xs.length
  · rw [List.getElem?_append_left hi] at ha
    rw [List.getElem?_append_left (h.1 ▸ hi)] at hb
    exact h.2 i a b ha hb
  · rw [List.getElem?_append_right (by omega)] at ha
    rw [List.getElem?_append_right (by rw [← h.1]; omega), ← h.1] at hb
    exact h'.2 _ a b ha hb
theorem VRs.set {φ : Ren} {xs ys : List Value} {x y : Value} (h : VRs φ xs ys) (hv : VR φ x y) (i : Nat) : VRs φ (xs.set i x) (ys.set i y) := by
  refine ⟨by simp [h.1], fun j a b ha hb => ?_⟩
  rw [List.getElem?_set] at ha hb
  by_cases e : i = j
  · subst e
    by_cases hi : i < xs.length
    · rw [if_pos rfl, if_pos hi] at ha
      rw [if_pos rfl, if_pos (h.1 ▸ hi)] at hb
      cases ha; cases hb; exact hv
    · rw [if_pos rfl, if_neg hi] at ha; cases ha
  · rw [if_neg e] at ha hb
    exact h.2 j a b ha hb

theorem VRs.of_array {φ : Ren} {xs ys : Array Value} (h : xs.size = ys.size) (hs : ∀ (i : Nat) (x y : Value), xs[i]? = some x → ys[i]? = some y → VR φ x y) : VRs φ xs.toList ys.toList :=
  ⟨by simpa using h, fun i x y hx hy => hs i x y (by simpa using hx) (by simpa using hy)⟩
theorem VRs.agg {φ : Ren} {xs ys : List Value} (h : VRs φ xs ys) : VR φ (.agg xs.toArray) (.agg ys.toArray) :=
  .agg _ _ (by simpa using h.1) fun i x y hx hy => h.2 i x y (by simpa using hx) (by simpa using hy)
theorem VRs.tuple {φ : Ren} {xs ys : List Value} (h : VRs φ xs ys) : VR φ (.tuple xs.toArray) (.tuple ys.toArray) :=
  .tuple _ _ (by simpa using h.1) fun i x y hx hy => h.2 i x y (by simpa using hx) (by simpa using hy)

theorem VR.cells {φ : Ren} {v v' : Value} (h : VR φ v v') : VRs φ v.cells.toList v'.cells.toList := by
  cases h with
  | agg xs ys h hs => exact VRs.of_array h hs
  | _ =>
    first
      | exact VRs.cons (by constructor <;> assumption) (VRs.nil _)
      | exact VRs.cons (by assumption) (VRs.nil _)
      | (refine VRs.cons ?_ (VRs.nil _); first | constructor | exact .ptr _ _ _ ‹_› | exact .map _ _ ‹_›)

/-- Entries of maps, place by place. -/
def EsR (φ : Ren) (es ES : List MapEntry) : Prop :=
  es.length = ES.length ∧ ∀ (i : Nat) (x y : MapEntry), es[i]? = some x → ES[i]? = some y → x.key = y.key ∧ x.born = y.born ∧ VR φ x.val y.val

/-- No cell of a row is frozen. -/
def Warm (n : Nat) (fz : Nat × Nat) : Prop := ∀ i, i < n → ¬ (fz.1 ≤ i ∧ i < fz.2)

/-- A block held against what lies at its place. -/
def BlkOk (φ : Ren) (w : World) (x : ABlk) (l : Loc) : Prop :=
  (l.loose = x.loose ∧ (x.ro = false → x.loose = none → l.base = 0)) ∧ match x.obj with
    | .cells c e => ∃ C e' fz, w.heap[l.blk]? = some (.cells C e' fz) ∧ (∀ (i : Nat) (v : Value), c[i]? = some v → ∃ V, C[l.base + i]? = some V ∧ VR φ v V) ∧
        (x.ro = false → Warm C.size fz) ∧ (x.ro = false → x.loose ≠ some 1 → fz = (0, 0)) ∧ (∀ s, x.loose = some s → C.size = l.size) ∧ (x.ro = false → e' = e)
    | .map es clock => ∃ ES, w.heap[l.blk]? = some (.map ES clock) ∧ EsR φ es ES.toList
    | .siter s pos => w.heap[l.blk]? = some (.stringIter s pos)
    | .glob g k => l.blk = g ∧ ∃ C e' fz, w.heap[l.blk]? = some (.cells C e' fz) ∧ k.Ok C
    | .loopR ts ps a b st pend => ∃ r : Loop, w.heap[l.blk]? = some (.loop r) ∧ r.state = st ∧ r.pending = pend ∧ r.params.toList = ps ∧ r.assign = a ∧ r.body = b ∧ VRs φ ts r.tmps.toList
    | .deferR => w.heap[l.blk]? = some (.deferred (some []))
    | .sects n t e => ∃ C, w.heap[l.blk]? = some (.cells C e (0, 0)) ∧ ∀ i, i < n → (sectAt t i).length = 64 ∧ ∀ (j : Nat) (b : UInt8), (sectAt t i)[j]? = some b → C[i * 64 + j]? = some (.int .u8 b.toNat)

structure Inv (φ : Ren) (m : Mem) (w : World) : Prop where
  live : ∀ b x, m.get b = some x → ∃ l, φ b = some l ∧ BlkOk φ w x l
  apart : ∀ b c x y l k, m.get b = some x → m.get c = some y → φ b = some l → φ c = some k → x.ro = false → b ≠ c → l.blk ≠ k.blk
  below : ∀ b l, φ b = some l → b < m.next ∧ l.blk < w.heap.size

/-- What a piece of work leaves as it was. -/
structure Frm (φ : Ren) (m : Mem) (w : World) (φ' : Ren) (m' : Mem) (w' : World) : Prop where
  ren : Ren.le φ φ'
  size : w.heap.size ≤ w'.heap.size
  same : ∀ B, B < w.heap.size → (∀ b x l, m.get b = some x → φ b = some l → x.ro = false → l.blk ≠ B) → w'.heap[B]? = w.heap[B]?
  own : ∀ b x l, m'.get b = some x → φ' b = some l → x.ro = false → w.heap.size ≤ l.blk ∨ ∃ c y k, m.get c = some y ∧ φ c = some k ∧ y.ro = false ∧ k.blk = l.blk
  os : w'.os = w.os
  output : w'.output = w.output
  tape : w'.tape = w.tape
  nxt : m.next ≤ m'.next
  old : ∀ b, b < m.next → φ' b = φ b
  dead : ∀ b, b < m.next → m.get b = none → m'.get b = none
  all : ∀ b x l, m'.get b = some x → φ' b = some l → w.heap.size ≤ l.blk ∨ ∃ c y k, m.get c = some y ∧ φ c = some k ∧ k.blk = l.blk

theorem Frm.refl (φ : Ren) (m : Mem) (w : World) : Frm φ m w φ m w :=
  ⟨Ren.le_refl φ, Nat.le_refl _, fun _ _ _ => rfl, fun b x l h h' h'' => .inr ⟨b, x, l, h, h', h'', rfl⟩, rfl, rfl, rfl, Nat.le_refl _, fun _ _ => rfl, fun _ _ h => h, fun b x l h h' => .inr ⟨b, x, l, h, h', rfl⟩⟩

theorem Frm.trans {φ φ' φ'' : Ren} {m m' m'' : Mem} {w w' w'' : World} (h : Frm φ m w φ' m' w') (h' : Frm φ' m' w' φ'' m'' w'') : Frm φ m w φ'' m'' w'' := by
  refine ⟨Ren.le_trans h.ren h'.ren, Nat.le_trans h.size h'.size, fun B hB hno => ?_, fun b x l hb hl hr => ?_, h'.os.trans h.os, h'.output.trans h.output, h'.tape.trans h.tape, Nat.le_trans h.nxt h'.nxt, fun b hb => (h'.old b (Nat.lt_of_lt_of_le hb h.nxt)).trans (h.old b hb), fun b hb hn => h'.dead b (Nat.lt_of_lt_of_le hb h.nxt) (h.dead b hb hn), fun b x l hb hl => ?_⟩
  · rw [h'.same B (Nat.lt_of_lt_of_le hB h.size) ?_, h.same B hB hno]
    intro b x l hb hl hr e
    rcases h.own b x l hb hl hr with hge | ⟨c, y, k, hc, hk, hy, e'⟩
    · omega
    · exact hno c y k hc hk hy (e'.trans e)
  · rcases h'.own b x l hb hl hr with hge | ⟨c, y, k, hc, hk, hy, e⟩
    · exact .inl (Nat.le_trans h.size hge)
    · rcases h.own c y k hc hk hy with hge | ⟨d, z, j, hd, hj, hz, e'⟩
      · exact .inl (e ▸ hge)
      · exact .inr ⟨d, z, j, hd, hj, hz, e'.trans e⟩
  · rcases h'.all b x l hb hl with hge | ⟨c, y, k, hc, hk, e⟩
    · exact .inl (Nat.le_trans h.size hge)
    · rcases h.all c y k hc hk with hge | ⟨d, z, j, hd, hj, e'⟩
      · exact .inl (e ▸ hge)
      · exact .inr ⟨d, z, j, hd, hj, e'.trans e⟩

end Go.Fx
