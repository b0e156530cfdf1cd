/- The operations of the abstract machine, and that the machine's own come to the same. -/
import Derived.Test.YtnngjdfadfblmaaGreatDoorFxAppend
import GoSem.Dispatch
namespace Go.Fx
open Go
set_option linter.unusedSimpArgs false
set_option linter.unusedVariables false

/-- A value without an address. -/
def plain : Value → Bool
  | .bool _ | .int _ _ | .string _ | .pointer none | .slice none 0 0 | .map none | .nilFunc | .nilIface => true
  | _ => false

theorem VR.plain {φ : Ren} {v : Value} (h : plain v = true) : VR φ v v := by
  cases v with
  | bool b => exact .bool b
  | int k n => exact .int k n
  | string s => exact .string s
  | pointer a => cases a with
    | none => exact .ptrNil
    | some a => simp [Fx.plain] at h
  | slice a n c =>
    cases a with
    | some a => simp [Fx.plain] at h
    | none =>
      cases n with
      | succ n => simp [Fx.plain] at h
      | zero => cases c with
        | succ n => simp [Fx.plain] at h
        | zero => exact .sliceNil
  | map r => cases r with
    | none => exact .mapNil
    | some a => simp [Fx.plain] at h
  | nilFunc => exact .nilFunc
  | nilIface => exact .nilIface
  | _ => simp [Fx.plain] at h

theorem VRs.plain {φ : Ren} : ∀ {l : List Value}, l.all Fx.plain = true → VRs φ l l
  | [], _ => VRs.nil φ
  | v :: l, h => by
    simp only [List.all_cons, Bool.and_eq_true] at h
    exact VRs.cons (VR.plain h.1) (VRs.plain h.2)

theorem VR.undef (φ : Ren) : VR φ undef undef := .tuple #[] #[] rfl (fun i x y h => by simp at h)

def aval (ts : List Value) : Operand → Option Value
  | .tmp t => some (ts[t]?.getD undef)
  | .const v => if plain v then some v else none
  | .func f => some (.func (.func f) #[] #[])
  | .global _ => none

theorem aval_ok {φ : Ren} {ts : List Value} {a : Act} (ht : VRs φ ts a.tmps.toList) {x : Operand} {v : Value} (h : aval ts x = some v) : VR φ v (a.eval x) := by
  cases x with
  | tmp t =>
    simp only [aval, Option.some.injEq] at h
    subst h
    simp only [Act.eval]
    rw [Array.getD_eq_getD_getElem?]
    cases e : ts[t]? with
    | none =>
      have : a.tmps[t]? = none := by
        rw [Array.getElem?_eq_none_iff]
        rw [List.getElem?_eq_none_iff] at e
        have := ht.1; simp at this; omega
      rw [this]; exact VR.undef φ
    | some u =>
      obtain ⟨V, hV, r⟩ := ht.get e
      have : a.tmps[t]? = some V := by simpa using hV
      rw [this]; exact r
  | const v =>
    simp only [aval] at h
    split at h
    · cases h; exact VR.plain (by assumption)
    · cases h
  | func f =>
    simp only [aval, Option.some.injEq] at h
    subst h
    exact .func f #[] #[] #[] #[] rfl (fun i x y h => by simp at h) rfl (fun i x y h => by simp at h)
  | global g => simp [aval] at h

/-- What an operation's run comes to, held against the abstract one. -/
def Comes1 (φ : Ren) (m : Mem) (w : World) (r : Result Next) (v : Value) (m' : Mem) : Prop :=
  ∃ V w' φ', (r = .ok (.value V) w' ∨ (r = .ok .skip w' ∧ V = undef)) ∧ VR φ' v V ∧ Inv φ' m' w' ∧ Frm φ m w φ' m' w'

theorem Comes1.quiet {φ : Ren} {m : Mem} {w : World} {r : Result Next} {v V : Value} (hi : Inv φ m w) (hv : VR φ v V) (hr : r = .ok (.value V) w) : Comes1 φ m w r v m :=
  ⟨V, w, φ, .inl hr, hv, hi, Frm.refl φ m w⟩

@[simp] theorem run_und {P : Program} {t : TypeId} {d : TypeDesc} {w : World} (h : P.underlying t = some d) : (underlying t).run P w = .ok d w := by simp [underlying, h]
@[simp] theorem run_tinfo {P : Program} {t : TypeId} {i : TypeInfo} {w : World} (h : P.info? t = some i) : (typeInfo t).run P w = .ok i w := by simp [typeInfo, h]
theorem run_size {P : Program} {t : TypeId} {i : TypeInfo} {w : World} (h : P.info? t = some i) : (sizeOf t).run P w = .ok i.size w := by simp [sizeOf, run_tinfo h]
theorem run_zero {P : Program} {t : TypeId} {i : TypeInfo} {z : Value} {w : World} (h : P.info? t = some i) (hz : i.zero = some z) : (zeroValue t).run P w = .ok z w := by simp [zeroValue, run_tinfo h, hz]

/-- Is a type of more than one part? -/
def aggT (P : Program) (t : TypeId) : Option Bool :=
  match P.underlying t with
  | some (.struct _) | some (.array ..) => some true
  | some _ => some false
  | none => none

theorem run_isAgg {P : Program} {t : TypeId} {b : Bool} {w : World} (h : aggT P t = some b) : (isAgg t).run P w = .ok b w := by
  unfold aggT at h
  cases hd : P.underlying t with
  | none => rw [hd] at h; cases h
  | some d =>
    rw [hd] at h
    simp only [isAgg, Sem.run_bind, run_und hd, Result.andThen_ok]
    cases d <;> simp at h <;> subst h <;> rfl

/- the pieces of values -/
def asPtr : Value → Option (Nat × Nat)
  | .pointer (some ⟨b, off, none⟩) => some (b, off)
  | _ => none

theorem asPtr_ok {φ : Ren} {v V : Value} (h : VR φ v V) {b off : Nat} (hp : asPtr v = some (b, off)) : ∃ l, φ b = some l ∧ V = .pointer (some ⟨l.blk, l.base + off, none⟩) := by
  cases h <;> simp [asPtr] at hp
  case ptr b' off' l h => obtain ⟨rfl, rfl⟩ := hp; exact ⟨l, h, rfl⟩

def asInt64 : Value → Option (IntKind × Int)
  | .int k n => some (k, n)
  | _ => none

def asStr : Value → Option ByteArray
  | .string s => some s
  | _ => none

def Mem.cellsAt (m : Mem) (b : Nat) : Option (List Value) :=
  match m.get b with
  | some ⟨.cells c _, _, _⟩ => some c
  | _ => none

theorem Mem.cellsAt_get {m : Mem} {b : Nat} {c : List Value} (h : m.cellsAt b = some c) : ∃ e ro lo, m.get b = some ⟨.cells c e, ro, lo⟩ := by
  unfold Mem.cellsAt at h
  split at h
  · rename_i c' e ro lo hg
    simp only [Option.some.injEq] at h
    subst h
    exact ⟨e, ro, lo, hg⟩
  · cases h

/-- Cells of one's own that may be written: the cells, the type, whether loose. -/
def Mem.ownAt (m : Mem) (b : Nat) : Option (List Value × TypeId × Option Nat) :=
  match m.get b with
  | some ⟨.cells c e, false, lo⟩ => some (c, e, lo)
  | _ => none

theorem Mem.ownAt_get {m : Mem} {b : Nat} {x : List Value × TypeId × Option Nat} (h : m.ownAt b = some x) : m.get b = some ⟨.cells x.1 x.2.1, false, x.2.2⟩ := by
  unfold Mem.ownAt at h
  split at h
  · rename_i c e lo hg
    simp only [Option.some.injEq] at h
    subst h
    exact hg
  · cases h

/- load -/
def runLoad1 (v : Value) (m : Mem) : Option Value :=
  (asPtr v).bind fun p => (m.cellsAt p.1).bind fun c => c[p.2]?

def runLoadN (n : Nat) (v : Value) (m : Mem) : Option Value :=
  (asPtr v).bind fun p => (m.cellsAt p.1).bind fun c => if p.2 + n ≤ c.length then some (.agg ((c.drop p.2).take n).toArray) else none

theorem sound_load1 {P : Program} {φ : Ren} {m : Mem} {w : World} (hi : Inv φ m w) {t : TypeId} (ht : aggT P t = some false) {v V u : Value} (hv : VR φ v V) (h : runLoad1 v m = some u) :
    ∃ U, (Instr.loadAt t V).run P w = .ok U w ∧ VR φ u U := by
  simp only [runLoad1, Option.bind_eq_some_iff] at h
  obtain ⟨⟨b, off⟩, hp, c, hc, hu⟩ := h
  obtain ⟨l, hl, rfl⟩ := asPtr_ok hv hp
  obtain ⟨e, ro, lo, hg⟩ := Mem.cellsAt_get hc
  obtain ⟨U, hU, r⟩ := hi.load hg hl hu
  refine ⟨U, ?_, r⟩
  simp [Instr.loadAt, Instr.sureAddr, loadVar, run_isAgg ht, hU]

theorem sound_loadN {P : Program} {φ : Ren} {m : Mem} {w : World} (hi : Inv φ m w) {t : TypeId} {i : TypeInfo} (ht : aggT P t = some true) (hti : P.info? t = some i) {v V u : Value} (hv : VR φ v V) (h : runLoadN i.size v m = some u) :
    ∃ U, (Instr.loadAt t V).run P w = .ok U w ∧ VR φ u U := by
  simp only [runLoadN, Option.bind_eq_some_iff] at h
  obtain ⟨⟨b, off⟩, hp, c, hc, hu⟩ := h
  obtain ⟨l, hl, rfl⟩ := asPtr_ok hv hp
  obtain ⟨e, ro, lo, hg⟩ := Mem.cellsAt_get hc
  split at hu
  · rename_i hlen
    cases hu
    obtain ⟨Vs, hrun, hr⟩ := hi.loadCells (P := P) hg hl off i.size hlen
    refine ⟨.agg Vs.toArray, ?_, hr.agg⟩
    simp [Instr.loadAt, Instr.sureAddr, loadVar, run_isAgg ht, run_size hti, hrun]
  · cases hu

/- store -/
def runStore (n : Nat) (v x : Value) (m : Mem) : Option Mem :=
  (asPtr v).bind fun p => (m.ownAt p.1).bind fun q =>
    if x.cells.size = n ∧ p.2 + n ≤ q.1.length ∧ x.cells.toList.all (·.oneCell') = true then some (m.put p.1 ⟨.cells (setRange q.1 p.2 x.cells.toList) q.2.1, false, q.2.2⟩) else none

theorem VR.cells_size {φ : Ren} {v V : Value} (h : VR φ v V) : V.cells.size = v.cells.size := by
  have := h.cells.1; simpa using this.symm

theorem sound_store {P : Program} {φ : Ren} {m m' : Mem} {w : World} (hi : Inv φ m w) {t : TypeId} {i : TypeInfo} (hti : P.info? t = some i) {v V x X : Value} (hv : VR φ v V) (hx : VR φ x X) (h : runStore i.size v x m = some m') :
    ∃ w', (Instr.storeAt t V X).run P w = .ok () w' ∧ Inv φ m' w' ∧ Frm φ m w φ m' w' := by
  simp only [runStore, Option.bind_eq_some_iff] at h
  obtain ⟨⟨b, off⟩, hp, ⟨c, e, lo⟩, hc, hu⟩ := h
  obtain ⟨l, hl, rfl⟩ := asPtr_ok hv hp
  have hg := Mem.ownAt_get hc
  split at hu
  · rename_i hh
    obtain ⟨h1, h2, h3⟩ := hh
    cases hu
    obtain ⟨w', hrun, h4, h5⟩ := Inv.storeCells (P := P) hl off x.cells.toList X.cells.toList 0 c m w hi hg hx.cells (fun v hv => List.all_eq_true.1 h3 v hv) (by simp only [Array.length_toList]; simp only at h2; omega)
    refine ⟨w', ?_, h4, h5⟩
    simp only [Instr.storeAt, Instr.sureAddr, storeVar, Sem.run_bind, Sem.run_pure, Result.andThen_ok, run_size hti, hx.cells_size, h1]
    simpa using hrun
  · cases hu

/- new blocks -/
theorem sound_newVar {P : Program} {φ : Ren} {m : Mem} {w : World} (hi : Inv φ m w) (t : TypeId) {x X : Value} (hx : VR φ x X) :
    ∃ w' φ', (newVar t X).run P w = .ok ⟨w.heap.size, 0, none⟩ w' ∧ φ' m.next = some ⟨w.heap.size, 0, none, 0⟩ ∧ Inv φ' (m.add ⟨.cells x.cells.toList t, false, none⟩) w' ∧ Frm φ m w φ' (m.add ⟨.cells x.cells.toList t, false, none⟩) w' := by
  obtain ⟨φ', h1, h2, h3⟩ := hi.allocCells t hx.cells
  simp only [Array.toArray_toList] at h1 h2
  exact ⟨_, φ', rfl, h3, h1, h2⟩

def runBox (e : TypeId) (x : Value) (m : Mem) : Value × Mem := (.pointer (some ⟨m.next, 0, none⟩), m.add ⟨.cells x.cells.toList e, false, none⟩)

theorem sound_box {P : Program} {φ : Ren} {m : Mem} {w : World} (hi : Inv φ m w) (t : TypeId) {x X : Value} (hx : VR φ x X) :
    ∃ V w' φ', (Instr.box t X).run P w = .ok V w' ∧ VR φ' (runBox t x m).1 V ∧ Inv φ' (runBox t x m).2 w' ∧ Frm φ m w φ' (runBox t x m).2 w' := by
  obtain ⟨w', φ', h1, h2, h3, h4⟩ := sound_newVar (P := P) hi t hx
  refine ⟨_, w', φ', by simp [Instr.box, h1]; rfl, ?_, h3, h4⟩
  have := VR.ptr m.next 0 _ h2
  simpa [runBox] using this

theorem sound_alloc {P : Program} {φ : Ren} {m : Mem} {w : World} (hi : Inv φ m w) {t : TypeId} {i : TypeInfo} (hti : P.info? t = some i) {z : Value} (hz : i.zero = some z) (hp : VR φ z z) :
    ∃ V w' φ', (Instr.alloc t true (.tuple #[])).run P w = .ok V w' ∧ VR φ' (runBox t z m).1 V ∧ Inv φ' (runBox t z m).2 w' ∧ Frm φ m w φ' (runBox t z m).2 w' := by
  obtain ⟨w', φ', h1, h2, h3, h4⟩ := sound_newVar (P := P) hi t hp
  refine ⟨_, w', φ', by simp [Instr.alloc, run_zero hti hz, h1]; rfl, ?_, h3, h4⟩
  have := VR.ptr m.next 0 _ h2
  simpa [runBox] using this

/- built values -/
def afill : List Value → List (Nat × Nat × Value) → Option (List Value)
  | cells, [] => some cells
  | cells, (off, size, v) :: r => if v.cells.size ≠ size ∨ off + size > cells.length then none else afill (setRange cells off v.cells.toList) r

theorem foldl_setRange (l : List Value) : ∀ (k off : Nat) (cs : Array Value),
    (l.zipIdx k).foldl (fun cs (p : Value × Nat) => cs.setIfInBounds (off + p.2) p.1) cs = (setRange cs.toList (off + k) l).toArray := by
  induction l with
  | nil => intro k off cs; simp [setRange_nil]
  | cons v l ih =>
    intro k off cs
    simp only [List.zipIdx_cons, List.foldl_cons, setRange_cons]
    rw [ih (k + 1) off]
    simp [Nat.add_assoc]

/-- Parts with their values: places of the abstract ones are the machine's. -/
def PartsR (φ : Ren) (place : Nat → Option (Nat × Nat)) (ps : List (Nat × Nat × Value)) (PS : List (Nat × Value)) : Prop :=
  ps.length = PS.length ∧ ∀ (i : Nat) (p : Nat × Nat × Value) (q : Nat × Value), ps[i]? = some p → PS[i]? = some q → place q.1 = some (p.1, p.2.1) ∧ VR φ p.2.2 q.2

theorem VRs.setRange {φ : Ren} {vs Vs : List Value} (h : VRs φ vs Vs) : ∀ {c C : List Value} (o : Nat), VRs φ c C → VRs φ (Fx.setRange c o vs) (Fx.setRange C o Vs) := by
  induction vs generalizing Vs with
  | nil =>
    intro c C o hc
    have : Vs = [] := by have := h.1; simpa using this.symm
    subst this; rw [setRange_nil, setRange_nil]; exact hc
  | cons v r ih =>
    intro c C o hc
    cases Vs with
    | nil => have := h.1; simp at this
    | cons V R =>
      have hv : VR φ v V := h.2 0 v V rfl rfl
      have hR : VRs φ r R := ⟨by have := h.1; simpa using this, fun j x y hx hy => h.2 (j + 1) x y (by simpa using hx) (by simpa using hy)⟩
      rw [setRange_cons, setRange_cons]; exact ih hR (o + 1) (hc.set hv o)

theorem afill_ok {φ : Ren} {place : Nat → Option (Nat × Nat)} : ∀ (ps : List (Nat × Nat × Value)) (PS : List (Nat × Value)) (c : List Value) (C : Array Value) (r : List Value), PartsR φ place ps PS → VRs φ c C.toList → afill c ps = some r →
    ∃ R, Instr.fill place C PS = some R ∧ VRs φ r R.toList := by
  intro ps
  induction ps with
  | nil =>
    intro PS c C r hP hc h
    have : PS = [] := by have := hP.1; simpa using this.symm
    subst this
    simp only [afill, Option.some.injEq] at h
    subst h
    exact ⟨C, rfl, hc⟩
  | cons p ps ih =>
    intro PS c C r hP hc h
    cases PS with
    | nil => have := hP.1; simp at this
    | cons q PS =>
      obtain ⟨off, size, v⟩ := p
      obtain ⟨i, V⟩ := q
      obtain ⟨hpl, hv⟩ := hP.2 0 (off, size, v) (i, V) rfl rfl
      simp only at hpl hv
      have hP' : PartsR φ place ps PS := ⟨by have := hP.1; simpa using this, fun j x y hx hy => hP.2 (j + 1) x y (by simpa using hx) (by simpa using hy)⟩
      simp only [afill] at h
      split at h
      · cases h
      · rename_i hn
        have hn1 : v.cells.size = size := by
          rcases Nat.decEq v.cells.size size with h' | h'
          · exact absurd (Or.inl h') hn
          · exact h'
        have hn2 : ¬ (off + size > c.length) := fun h' => hn (.inr h')
        have hsz := hv.cells_size
        have hlen : C.size = c.length := by have := hc.1; simpa using this.symm
        have hset : V.cells.zipIdx.foldl (fun cs (x : Value × Nat) => cs.setIfInBounds (off + x.2) x.1) C = (setRange C.toList off V.cells.toList).toArray := by
          have := foldl_setRange V.cells.toList 0 off C
          rw [← Array.foldl_toList, Array.toList_zipIdx]
          simpa using this
        have hc' : VRs φ (Fx.setRange c off v.cells.toList) (setRange C.toList off V.cells.toList).toArray.toList := by simpa using hv.cells.setRange off hc
        obtain ⟨R, hR, hr⟩ := ih PS _ _ r hP' hc' h
        refine ⟨R, ?_, hr⟩
        simp only [Instr.fill, hpl]
        rw [if_neg (by simp only [hsz, ne_eq, Bool.or_eq_true, decide_eq_true_eq, not_or, Decidable.not_not]; omega)]
        rw [← hset] at hR
        exact hR

end Go.Fx
