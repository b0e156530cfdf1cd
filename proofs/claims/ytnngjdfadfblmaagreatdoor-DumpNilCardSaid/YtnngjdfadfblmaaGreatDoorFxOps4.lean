/- Slices cut, lengths, appends, copies. -/
import Derived.Test.YtnngjdfadfblmaaGreatDoorFxOps3
namespace Go.Fx
open Go
set_option linter.unusedSimpArgs false
set_option linter.unusedVariables false

/- bounds -/
def boundV (x : Option Value) (dflt most : Nat) : Option Nat :=
  match x with
  | none => some dflt
  | some (.int _ n) => if 0 ≤ n ∧ n ≤ most then some n.toNat else none
  | some _ => none

/-- An operand that may be absent, held against the machine's. -/
def ORel (φ : Ren) : Option Value → Option Value → Prop
  | none, none => True
  | some x, some y => VR φ x y
  | _, _ => False

def boundsV (len cap : Nat) (lo hi : Option Value) : Option (Nat × Nat) :=
  (boundV hi len cap).bind fun h => (boundV lo 0 h).map fun l => (l, h)

theorem run_sliceBound {P : Program} {w : World} {k : IntKind} {n : Int} {y y' : Nat} (code : BoundsCode) (h : 0 ≤ n ∧ n ≤ y) (hy : y ≤ y') : (Instr.sliceBound (.int k n) y' code).run P w = .ok n.toNat w := by
  have : 0 ≤ n ∧ n ≤ (y' : Int) := ⟨h.1, by omega⟩
  simp [Instr.sliceBound, asIntOf, this]

theorem run_sliceBounds {P : Program} {φ : Ren} {w : World} {isSlice : Bool} {len cap cap' : Nat} {lo hi LO HI : Option Value} {l h : Nat} (hlo : ORel φ lo LO) (hhi : ORel φ hi HI) (hb : boundsV len cap lo hi = some (l, h)) (hc : cap ≤ cap') :
    (Instr.sliceBounds isSlice len cap' LO HI none).run P w = .ok (l, h, cap') w := by
  simp only [boundsV, Option.bind_eq_some_iff, Option.map_eq_some_iff, Prod.mk.injEq] at hb
  obtain ⟨h1, hh, l1, hl, rfl, rfl⟩ := hb
  have e1 : ∃ x, (match HI with | some v => Instr.sliceBound v cap' (if isSlice then .sliceAcap else .sliceAlen) | none => (pure len : Sem Nat)) = x ∧ x.run P w = .ok h1 w := by
    refine ⟨_, rfl, ?_⟩
    cases hi with
    | none => cases HI with
      | some _ => exact hhi.elim
      | none => simp only [boundV, Option.some.injEq] at hh; subst hh; rfl
    | some v => cases HI with
      | none => exact hhi.elim
      | some V =>
        simp only [ORel] at hhi
        unfold boundV at hh
        split at hh
        · rename_i he; cases he
        · rename_i he; cases he
          cases hhi
          split at hh
          · rename_i hn; cases hh; exact run_sliceBound _ hn hc
          · cases hh
        · cases hh
  have e2 : ∃ x, (match LO with | some v => Instr.sliceBound v h1 (if false then .slice3C else .sliceB) | none => (pure 0 : Sem Nat)) = x ∧ x.run P w = .ok l1 w := by
    refine ⟨_, rfl, ?_⟩
    cases lo with
    | none => cases LO with
      | some _ => exact hlo.elim
      | none => simp only [boundV, Option.some.injEq] at hl; subst hl; rfl
    | some v => cases LO with
      | none => exact hlo.elim
      | some V =>
        simp only [ORel] at hlo
        unfold boundV at hl
        split at hl
        · rename_i he; cases he
        · rename_i he; cases he
          cases hlo
          split at hl
          · rename_i hn; cases hl; exact run_sliceBound _ hn (Nat.le_refl _)
          · cases hl
        · cases hl
  obtain ⟨x1, r1, e1⟩ := e1
  obtain ⟨x2, r2, e2⟩ := e2
  unfold Instr.sliceBounds
  subst r1
  subst r2
  simp only [Sem.run_bind, Sem.run_pure, Result.andThen_ok, Option.isSome_none]
  cases HI <;> cases LO <;> (simp only [Sem.run_bind, Sem.run_pure, Result.andThen_ok] at e1 e2 ⊢; (try (injection e1 with e1 _; subst e1)); (try rw [e1]); (try simp only [Result.andThen_ok]); (try (injection e2 with e2 _; subst e2)); (try rw [e2]); (try rfl))

def runSliceStr (v : Value) (lo hi : Option Value) : Option Value :=
  match v with
  | .string s => (boundsV s.size s.size lo hi).map fun p => .string ⟨((s.data.toList.drop p.1).take (p.2 - p.1)).toArray⟩
  | _ => none

theorem extract_list (s : ByteArray) (a b : Nat) : s.extract a b = ⟨((s.data.toList.drop a).take (b - a)).toArray⟩ := by
  obtain ⟨⟨l⟩⟩ := s
  apply ByteArray.ext
  apply Array.toList_inj.1
  simp [ByteArray.data_extract, Array.toList_extract, List.extract_eq_take_drop]

theorem sound_sliceStr {P : Program} {φ : Ren} {w : World} {t : TypeId} {v V u : Value} {lo hi LO HI : Option Value} (ht : P.underlying t = some .string) (hv : VR φ v V) (hlo : ORel φ lo LO) (hhi : ORel φ hi HI) (h : runSliceStr v lo hi = some u) :
    (Instr.sliceAt t V LO HI none).run P w = .ok u w ∧ VR φ u u := by
  unfold runSliceStr at h
  split at h
  · simp only [Option.map_eq_some_iff] at h
    obtain ⟨⟨l, r⟩, hb, rfl⟩ := h
    cases hv
    refine ⟨?_, .string _⟩
    simp [Instr.sliceAt, Instr.slice, run_und ht, run_sliceBounds hlo hhi hb (Nat.le_refl _), extract_list]
  · cases h

/-- How far a block's room is known: nothing of a dead one. -/
inductive Known where
  | exact | loose (s : Nat) | dead
  deriving DecidableEq

def Mem.known (m : Mem) (b : Nat) : Known :=
  match m.get b with
  | some ⟨_, _, none⟩ => .exact
  | some ⟨_, _, some s⟩ => .loose s
  | none => .dead

def runSliceS (size : Nat) (v : Value) (lo hi : Option Value) (m : Mem) : Option Value :=
  match v with
  | .slice none len cap => (boundsV len cap lo hi).bind fun p => if p.1 = 0 ∧ p.2 = 0 then some (.slice none 0 0) else none
  | .slice (some ⟨b, off, none⟩) len cap => (boundsV len cap lo hi).bind fun p =>
      if p.1 = 0 ∨ m.known b = .exact ∨ m.known b = .loose size then some (.slice (some ⟨b, if cap = p.1 then off else off + p.1 * size, none⟩) (p.2 - p.1) (cap - p.1)) else none
  | _ => none

theorem boundsV_le {len cap : Nat} {lo hi : Option Value} {l h : Nat} (hb : boundsV len cap lo hi = some (l, h)) (hlen : len ≤ cap) : l ≤ h ∧ h ≤ cap := by
  simp only [boundsV, Option.bind_eq_some_iff, Option.map_eq_some_iff, Prod.mk.injEq] at hb
  obtain ⟨h1, hh, l1, hl, rfl, rfl⟩ := hb
  constructor
  · unfold boundV at hl
    split at hl
    · cases hl; omega
    · split at hl
      · cases hl; omega
      · cases hl
    · cases hl
  · unfold boundV at hh
    split at hh
    · cases hh; omega
    · split at hh
      · cases hh; omega
      · cases hh
    · cases hh

theorem Inv.known_exact {φ : Ren} {m : Mem} {w : World} (h : Inv φ m w) {b : Nat} {l : Loc} (hl : φ b = some l) (hk : m.known b = .exact) : l.loose = none := by
  unfold Mem.known at hk
  split at hk
  · rename_i hg
    obtain ⟨k, hk', ok, _⟩ := h.live b _ hg
    rw [hl] at hk'; cases hk'
    exact ok.1
  · cases hk
  · cases hk
theorem Inv.known_loose {φ : Ren} {m : Mem} {w : World} (h : Inv φ m w) {b s : Nat} {l : Loc} (hl : φ b = some l) (hk : m.known b = .loose s) : l.loose = some s := by
  unfold Mem.known at hk
  split at hk
  · cases hk
  · rename_i hg
    cases hk
    obtain ⟨k, hk', ok, _⟩ := h.live b _ hg
    rw [hl] at hk'; cases hk'
    exact ok.1
  · cases hk

theorem sound_sliceS {P : Program} {φ : Ren} {m : Mem} {w : World} (hi : Inv φ m w) {t e : TypeId} {i : TypeInfo} {v V u : Value} {lo hi' LO HI : Option Value} (ht : P.underlying t = some (.slice e)) (hti : P.info? e = some i) (hv : VR φ v V) (hlo : ORel φ lo LO) (hhi : ORel φ hi' HI)
    (h : runSliceS i.size v lo hi' m = some u) : ∃ U, (Instr.sliceAt t V LO HI none).run P w = .ok U w ∧ VR φ u U := by
  unfold runSliceS at h
  split at h
  · rename_i len cap
    simp only [Option.bind_eq_some_iff] at h
    obtain ⟨⟨l, r⟩, hb, h⟩ := h
    split at h
    · rename_i hz
      cases h
      cases hv
      obtain ⟨rfl, rfl⟩ := hz
      exact ⟨.slice none 0 0, by simp [Instr.sliceAt, Instr.slice, run_und ht, run_size hti, run_sliceBounds hlo hhi hb (Nat.le_refl _)], .sliceNil⟩
    · cases h
  · rename_i b off len cap
    simp only [Option.bind_eq_some_iff] at h
    obtain ⟨⟨l, r⟩, hb, h⟩ := h
    split at h
    · rename_i hk
      cases h
      cases hv with
      | sliceEx _ _ _ _ k hl hlo' =>
        refine ⟨.slice (some ⟨k.blk, k.base + (if cap = l then off else off + l * i.size), none⟩) (r - l) (cap - l), ?_, .sliceEx _ _ _ _ k hl hlo'⟩
        simp only [Instr.sliceAt, Sem.run_bind, run_und ht, Result.andThen_ok, Instr.slice, run_sliceBounds hlo hhi hb (Nat.le_refl _), run_size hti, Sem.run_pure]
        by_cases hc : cap = l
        · simp [hc]
        · simp [hc, add_mk, Nat.add_assoc]
      | sliceZero _ _ A =>
        obtain ⟨h1, h2⟩ := boundsV_le hb (Nat.le_refl _)
        obtain rfl : r = 0 := by omega
        obtain rfl : l = 0 := by omega
        refine ⟨.slice (some A) 0 0, ?_, ?_⟩
        · simp only [Instr.sliceAt, Sem.run_bind, run_und ht, Result.andThen_ok, Instr.slice, run_sliceBounds hlo hhi hb (Nat.le_refl _), run_size hti, Sem.run_pure]
          simp
        · exact .sliceZero _ _ A
      | sliceLoose _ _ _ _ off' cap' s k hl hlo' hoff hlen hcap hroom =>
        have hle := boundsV_le hb hlen
        refine ⟨.slice (some ⟨k.blk, if cap' = l then off' else off' + l * i.size, none⟩) (r - l) (cap' - l), ?_, .sliceLoose _ _ _ _ _ _ s k hl hlo' ?_ (by omega) (by omega) ?_⟩
        · simp only [Instr.sliceAt, Sem.run_bind, run_und ht, Result.andThen_ok, Instr.slice, run_sliceBounds hlo hhi hb hcap, run_size hti, Sem.run_pure]
          by_cases hc : cap' = l
          · simp [hc]
          · simp [hc, add_mk]
        · intro hne
          have hne' : cap - l ≠ 0 := hne
          show (if cap' = l then off' else off' + l * i.size) = k.base + (if cap = l then off else off + l * i.size)
          rw [if_neg (show ¬ cap' = l by omega), if_neg (show ¬ cap = l by omega), hoff (by omega)]; omega
        · by_cases hc : cap' = l
          · rw [if_pos hc]
            rw [hc, Nat.sub_self, Nat.zero_mul]
            have := Nat.le_trans (Nat.le_add_right off' (cap' * s)) hroom
            omega
          · rw [if_neg hc]
            rcases hk with hk | hk | hk
            · subst hk; simpa using hroom
            · have := hi.known_exact hl hk
              rw [hlo'] at this; cases this
            · have := hi.known_loose hl hk
              rw [hlo'] at this; cases this
              have hlt : l ≤ cap' := by omega
              have : l * i.size + (cap' - l) * i.size = cap' * i.size := by rw [← Nat.add_mul]; congr 1; omega
              omega
    · cases h
  · cases h

/-- A slice of an array behind a pointer. -/
def runSliceA (n size : Nat) (v : Value) (lo hi : Option Value) (m : Mem) : Option Value :=
  (asPtr v).bind fun p => (boundsV n n lo hi).bind fun q => if m.known p.1 = .exact then some (.slice (some ⟨p.1, if n = q.1 then p.2 else p.2 + q.1 * size, none⟩) (q.2 - q.1) (n - q.1)) else none

theorem sound_sliceA {P : Program} {φ : Ren} {m : Mem} {w : World} (hi : Inv φ m w) {t e : TypeId} {n : Nat} {i : TypeInfo} {v V u : Value} {lo hi' LO HI : Option Value} (ht : P.underlying t = some (.array n e)) (hti : P.info? e = some i) (hv : VR φ v V) (hlo : ORel φ lo LO) (hhi : ORel φ hi' HI)
    (h : runSliceA n i.size v lo hi' m = some u) : ∃ U, (Instr.sliceAt t V LO HI none).run P w = .ok U w ∧ VR φ u U := by
  simp only [runSliceA, Option.bind_eq_some_iff] at h
  obtain ⟨⟨b, off⟩, hp, ⟨l, r⟩, hb, h⟩ := h
  obtain ⟨k, hl, rfl⟩ := asPtr_ok hv hp
  split at h
  · rename_i hk
    cases h
    refine ⟨.slice (some ⟨k.blk, k.base + (if n = l then off else off + l * i.size), none⟩) (r - l) (n - l), ?_, .sliceEx _ _ _ _ k hl (hi.known_exact hl hk)⟩
    simp only [Instr.sliceAt, Sem.run_bind, run_und ht, Result.andThen_ok, Instr.sureAddr, run_sliceBounds hlo hhi hb (Nat.le_refl _), run_size hti, Sem.run_pure]
    by_cases hc : n = l
    · simp [hc]
    · simp [hc, add_mk, Nat.add_assoc]
  · cases h

/- lengths -/
def runLenSlice (v : Value) : Option Value :=
  match v with
  | .slice _ n _ => some (.int .i64 n)
  | _ => none
def runLenStr (v : Value) : Option Value :=
  match v with
  | .string s => some (.int .i64 s.size)
  | _ => none

theorem sound_lenSlice {P : Program} {φ : Ren} {w : World} {t e ty : TypeId} {v V u : Value} (ht : P.underlying t = some (.slice e)) (hv : VR φ v V) (h : runLenSlice v = some u) : (Builtin.len_ #[t] ty #[V]).run P w = .ok u w ∧ VR φ u u := by
  unfold runLenSlice at h
  split at h
  · cases h
    cases hv <;> exact ⟨by simp [Builtin.len_, run_und ht, goInt], .int ..⟩
  · cases h
theorem sound_lenStr {P : Program} {φ : Ren} {w : World} {t ty : TypeId} {v V u : Value} (ht : P.underlying t = some .string) (hv : VR φ v V) (h : runLenStr v = some u) : (Builtin.len_ #[t] ty #[V]).run P w = .ok u w ∧ VR φ u u := by
  unfold runLenStr at h
  split at h
  · cases h
    cases hv
    exact ⟨by simp [Builtin.len_, run_und ht, goInt], .int ..⟩
  · cases h

/- what an append or a copy takes -/
def bytesOf (s : ByteArray) : List Value := s.toList.map fun b => .int .u8 b.toNat

def runSrc (size : Nat) (x : Value) (m : Mem) : Option (Nat × List Value) :=
  match x with
  | .string s => some (s.size, (s.data.toList.map fun b => Value.int .u8 b.toNat))
  | .slice none n _ => if n = 0 then some (0, []) else none
  | .slice (some ⟨b, off, none⟩) n _ =>
    if n = 0 then some (0, []) else (m.cellsAt b).bind fun c => if off + n * size ≤ c.length then some (n, (c.drop off).take (n * size)) else none
  | _ => none

theorem VRs.bytes {φ : Ren} (s : ByteArray) : VRs φ (s.data.map fun b => Value.int .u8 b.toNat).toList (s.data.map fun b => Value.int .u8 b.toNat).toList := by
  refine VRs.plain ?_
  rw [List.all_eq_true]
  intro v hv
  simp only [Array.toList_map, List.mem_map] at hv
  obtain ⟨b, _, rfl⟩ := hv
  rfl

theorem run_src {P : Program} {φ : Ren} {m : Mem} {w : World} (hi : Inv φ m w) {size : Nat} {x X : Value} {n : Nat} {nc : List Value} (hx : VR φ x X) (h : runSrc size x m = some (n, nc)) :
    (Builtin.lenOf X).run P w = .ok n w ∧ ∃ NC, VRs φ nc NC ∧ ∀ w', Inv φ m w' → ∃ NC, (Builtin.firstCells size n X).run P w' = .ok NC.toArray w' ∧ VRs φ nc NC := by
  unfold runSrc at h
  simp only [← Array.toList_map] at h
  split at h
  · rename_i s
    cases h
    cases hx
    refine ⟨by simp [Builtin.lenOf], _, VRs.bytes s, fun w' _ => ⟨_, ?_, VRs.bytes s⟩⟩
    have : s.extract 0 s.size = s := by simp
    simp only [Builtin.firstCells, this, Sem.run_pure]
  · rename_i k c
    split at h
    · rename_i hz
      cases h
      cases hx
      exact ⟨by simp [Builtin.lenOf], [], VRs.nil φ, fun w' _ => ⟨[], by simp [Builtin.firstCells], VRs.nil φ⟩⟩
    · cases h
  · rename_i b off k c
    split at h
    · rename_i hz
      cases h
      subst hz
      refine ⟨by cases hx <;> simp [Builtin.lenOf], [], VRs.nil φ, fun w' _ => ⟨[], ?_, VRs.nil φ⟩⟩
      cases hx <;> simp [Builtin.firstCells, Go.loadCells, Go.loadCellsFrom]
    · rename_i hz
      simp only [Option.bind_eq_some_iff] at h
      obtain ⟨cs, hc, h⟩ := h
      split at h
      · rename_i hlen
        cases h
        obtain ⟨e, ro, lo, hg⟩ := Mem.cellsAt_get hc
        cases hx with
        | sliceEx _ _ _ _ l hl hlo =>
          refine ⟨by simp [Builtin.lenOf], ?_⟩
          have key : ∀ w', Inv φ m w' → ∃ NC, (Builtin.firstCells size n (.slice (some ⟨l.blk, l.base + off, none⟩) n c)).run P w' = .ok NC.toArray w' ∧ VRs φ ((cs.drop off).take (n * size)) NC := by
            intro w' hi'
            obtain ⟨Vs, h1, h2⟩ := hi'.loadCells (P := P) hg hl off (n * size) hlen
            exact ⟨Vs, by simpa [Builtin.firstCells] using h1, h2⟩
          obtain ⟨NC, _, h2⟩ := key w hi
          exact ⟨NC, h2, key⟩
        | sliceZero _ _ A => exact absurd rfl hz
        | sliceLoose _ _ _ _ off' cap' s l hl hlo hoff hlen' hcap hroom =>
          have : off' = l.base + off := hoff (by omega)
          subst this
          refine ⟨by simp [Builtin.lenOf], ?_⟩
          have key : ∀ w', Inv φ m w' → ∃ NC, (Builtin.firstCells size n (.slice (some ⟨l.blk, l.base + off, none⟩) n cap')).run P w' = .ok NC.toArray w' ∧ VRs φ ((cs.drop off).take (n * size)) NC := by
            intro w' hi'
            obtain ⟨Vs, h1, h2⟩ := hi'.loadCells (P := P) hg hl off (n * size) hlen
            exact ⟨Vs, by simpa [Builtin.firstCells] using h1, h2⟩
          obtain ⟨NC, _, h2⟩ := key w hi
          exact ⟨NC, h2, key⟩
      · cases h
  · cases h

end Go.Fx
