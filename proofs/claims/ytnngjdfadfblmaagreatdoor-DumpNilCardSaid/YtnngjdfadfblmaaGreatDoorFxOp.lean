/- One operation of the abstract machine: how it is read out of the program's text, its run, and that the machine's own run comes to the same. -/
import Derived.Test.YtnngjdfadfblmaaGreatDoorFxOps5
namespace Go.Fx
open Go
set_option linter.unusedSimpArgs false
set_option linter.unusedVariables false

/- copy -/
def runCopy (size : Nat) (dst : Value) (n : Nat) (nc : List Value) (m : Mem) : Option (Value × Mem) :=
  match dst with
  | .slice none len _ => if len = 0 then some (.int .i64 0, m) else none
  | .slice (some ⟨b, off, none⟩) len cap =>
    let k := Nat.min n len
    if k = 0 then some (.int .i64 0, m)
    else (m.ownAt b).bind fun q =>
      if off + len * size ≤ q.1.length ∧ cap ≠ 0 ∧ nc.length = n * size ∧ nc.all (·.oneCell') = true then some (.int .i64 k, m.put b ⟨.cells (setRange q.1 off (nc.take (k * size))) q.2.1, false, q.2.2⟩) else none
  | _ => none

/- least and greatest of numbers -/
def min2 (a b : Value) : Option Value :=
  match a, b with
  | .int k x, .int _ y => some (.int k (if y < x then y else x))
  | _, _ => none
def max2 (a b : Value) : Option Value :=
  match a, b with
  | .int k x, .int _ y => some (.int k (if y > x then y else x))
  | _, _ => none
def foldV (f : Value → Value → Option Value) : Value → List Value → Option Value
  | a, [] => some a
  | a, b :: r => match f a b with
    | some c => foldV f c r
    | none => none

theorem sound_foldV {P : Program} {φ : Ren} {w : World} {f : Value → Value → Option Value} {g : Value → Value → Sem Value} (hfg : ∀ a b A B u, VR φ a A → VR φ b B → f a b = some u → (g A B).run P w = .ok u w ∧ VR φ u u ∧ ∃ k n, u = .int k n) :
    ∀ (l L : List Value) (a A u : Value), VR φ a A → VRs φ l L → foldV f a l = some u → ∃ U, (L.foldlM g A).run P w = .ok U w ∧ VR φ u U := by
  intro l
  induction l with
  | nil =>
    intro L a A u ha hl h
    have : L = [] := by have := hl.1; simpa using this.symm
    subst this
    cases h
    exact ⟨A, by simp, ha⟩
  | cons b l ih =>
    intro L a A u ha hl h
    cases L with
    | nil => have := hl.1; simp at this
    | cons B L =>
      simp only [foldV] at h
      split at h
      · rename_i c hc
        obtain ⟨h1, h2, _⟩ := hfg a b A B c ha (hl.2 0 b B rfl rfl) hc
        obtain ⟨U, h3, h4⟩ := ih L c c u h2 ⟨by have := hl.1; simpa using this, fun i x y hx hy => hl.2 (i + 1) x y (by simpa using hx) (by simpa using hy)⟩ h
        exact ⟨U, by simp [List.foldlM_cons, h1, h3], h4⟩
      · cases h

theorem sound_min2 {P : Program} {φ : Ren} {w : World} (a b A B u : Value) (ha : VR φ a A) (hb : VR φ b B) (h : min2 a b = some u) : (Builtin.min2 A B).run P w = .ok u w ∧ VR φ u u ∧ ∃ k n, u = .int k n := by
  unfold min2 at h
  split at h
  · cases h; cases ha; cases hb; exact ⟨by simp [Builtin.min2], .int .., _, _, rfl⟩
  · cases h
theorem sound_max2 {P : Program} {φ : Ren} {w : World} (a b A B u : Value) (ha : VR φ a A) (hb : VR φ b B) (h : max2 a b = some u) : (Builtin.max2 A B).run P w = .ok u w ∧ VR φ u u ∧ ∃ k n, u = .int k n := by
  unfold max2 at h
  split at h
  · cases h; cases ha; cases hb; exact ⟨by simp [Builtin.max2], .int .., _, _, rfl⟩
  · cases h

theorem run_src_le {P : Program} {φ : Ren} {m : Mem} {w : World} (hi : Inv φ m w) {size : Nat} {x X : Value} {n k : Nat} {nc : List Value} (hx : VR φ x X) (h : runSrc size x m = some (n, nc)) (hk : k ≤ n) (hk0 : k ≠ 0) (hnl : nc.length = n * size) :
    ∃ NC, (Builtin.firstCells size k X).run P w = .ok NC.toArray w ∧ VRs φ (nc.take (k * size)) NC := by
  unfold runSrc at h
  simp only [← Array.toList_map] at h
  split at h
  · rename_i s
    cases h
    cases hx
    have hs1 : size = 1 := by
      simp only [Array.toList_map, List.length_map, Array.length_toList] at hnl
      have h1 : s.data.size = s.size := rfl
      rw [h1] at hnl
      have h2 : s.size * 1 = s.size * size := by omega
      exact (Nat.eq_of_mul_eq_mul_left (by omega) h2).symm
    subst hs1
    refine ⟨((s.extract 0 k).data.map fun b => Value.int .u8 b.toNat).toList, by simp only [Builtin.firstCells, Sem.run_pure, Array.toArray_toList], ?_⟩
    have : ((s.data.map fun b => Value.int .u8 b.toNat).toList).take (k * 1) = ((s.extract 0 k).data.map fun b => Value.int .u8 b.toNat).toList := by
      simp only [Array.toList_map, Nat.mul_one, ← List.map_take, ByteArray.data_extract, Array.toList_extract, List.extract_eq_take_drop, List.drop_zero]
      simp
    rw [this]
    exact VRs.bytes _
  · split at h
    · cases h; omega
    · cases h
  · rename_i b off k' c
    split at h
    · cases h; omega
    · rename_i hz
      simp only [Option.bind_eq_some_iff] at h
      obtain ⟨cs, hc, h⟩ := h
      split at h
      · rename_i hlen
        cases h
        obtain ⟨e, ro, lo, hg⟩ := Mem.cellsAt_get hc
        have hmul : k * size ≤ n * size := Nat.mul_le_mul_right _ hk
        have htk : ((cs.drop off).take (n * size)).take (k * size) = (cs.drop off).take (k * size) := by rw [List.take_take]; congr 1; omega
        rw [htk]
        cases hx with
        | sliceEx _ _ _ _ l hl hlo =>
          obtain ⟨Vs, h1, h2⟩ := hi.loadCells (P := P) hg hl off (k * size) (by omega)
          exact ⟨Vs, by simpa [Builtin.firstCells] using h1, h2⟩
        | sliceZero _ _ A => exact absurd rfl hz
        | sliceLoose _ _ _ _ off' cap' s l hl hlo hoff hlen' hcap hroom =>
          have : off' = l.base + off := hoff (by omega)
          subst this
          obtain ⟨Vs, h1, h2⟩ := hi.loadCells (P := P) hg hl off (k * size) (by omega)
          exact ⟨Vs, by simpa [Builtin.firstCells] using h1, h2⟩
      · cases h
  · cases h

theorem sound_copy {P : Program} {φ : Ren} {m m' : Mem} {w : World} (hi : Inv φ m w) {ts tx e ty : TypeId} {i : TypeInfo} {v V x X u : Value} {n : Nat} {nc : List Value}
    (ht : P.underlying ts = some (.slice e)) (hti : P.info? e = some i) (hv : VR φ v V) (hxv : VR φ x X) (hsrc : runSrc i.size x m = some (n, nc)) (h : runCopy i.size v n nc m = some (u, m')) :
    ∃ w', (Builtin.copy_ #[ts, tx] ty #[V, X]).run P w = .ok u w' ∧ VR φ u u ∧ Inv φ m' w' ∧ Frm φ m w φ m' w' := by
  obtain ⟨hlen, _, _, hnew⟩ := run_src (P := P) hi hxv hsrc
  have key : ∀ (base : Option Addr) (len CAP : Nat) (NC : List Value) (w' : World), (Builtin.firstCells i.size (Nat.min n len) X).run P w = .ok NC.toArray w → (∀ a, base = some a → (Go.storeCells a NC).run P w = .ok () w') → (base = none → w' = w) →
      (Builtin.copy_ #[ts, tx] ty #[.slice base len CAP, X]).run P w = .ok (.int .i64 (Nat.min n len)) w' := by
    intro base len CAP NC w' h1 h2 h3
    simp only [Builtin.copy_, Sem.run_bind, run_und ht, run_size hti, Result.andThen_ok, Sem.run_pure, List.getElem?_toArray, List.getElem?_cons_zero, List.getElem?_cons_succ, hlen, h1]
    cases base with
    | none => simp [h3 rfl, goInt]
    | some a => have := h2 a rfl; simp [this, goInt]
  have h0 : ∀ (len : Nat), Nat.min n len = 0 → ∃ NC : List Value, (Builtin.firstCells i.size (Nat.min n len) X).run P w = .ok NC.toArray w ∧ NC = [] := by
    intro len h0
    rw [h0]
    unfold runSrc at hsrc
    simp only [← Array.toList_map] at hsrc
    split at hsrc
    · cases hxv; exact ⟨[], by simp [Builtin.firstCells], rfl⟩
    · cases hxv; exact ⟨[], by simp [Builtin.firstCells], rfl⟩
    · cases hxv <;> exact ⟨[], by simp [Builtin.firstCells, Go.loadCells, Go.loadCellsFrom], rfl⟩
    · cases hsrc
  unfold runCopy at h
  split at h
  · rename_i len cap
    split at h
    · rename_i hz
      cases h
      subst hz
      cases hv
      obtain ⟨NC, h1, rfl⟩ := h0 0 (Nat.min_zero n)
      have := key none 0 0 [] w h1 (fun a h => by cases h) (fun _ => rfl)
      rw [show Nat.min n 0 = 0 from Nat.min_zero n] at this
      exact ⟨w, this, .int .., hi, Frm.refl φ m w⟩
    · cases h
  · rename_i b off len cap
    simp only at h
    split at h
    · rename_i hk
      cases h
      obtain ⟨NC, h1, rfl⟩ := h0 len hk
      cases hv with
      | sliceEx _ _ _ _ l hl hlo =>
        have := key (some ⟨l.blk, l.base + off, none⟩) len cap [] w h1 (fun a h => by simp [Go.storeCells]) (fun h => by cases h)
        rw [hk] at this
        exact ⟨w, this, .int .., hi, Frm.refl φ m w⟩
      | sliceZero _ _ A =>
        have := key (some A) 0 0 [] w h1 (fun a h => by simp [Go.storeCells]) (fun h => by cases h)
        rw [hk] at this
        exact ⟨w, this, .int .., hi, Frm.refl φ m w⟩
      | sliceLoose _ _ _ _ off' cap' s l hl hlo hoff hlen' hcap hroom =>
        have := key (some ⟨l.blk, off', none⟩) len cap' [] w h1 (fun a h => by simp [Go.storeCells]) (fun h => by cases h)
        rw [hk] at this
        exact ⟨w, this, .int .., hi, Frm.refl φ m w⟩
    · rename_i hk
      simp only [Option.bind_eq_some_iff] at h
      obtain ⟨⟨c, e', lo⟩, hq, h⟩ := h
      have hg := Mem.ownAt_get hq
      split at h
      · rename_i hh
        cases h
        obtain ⟨h1, h2, h3, h4⟩ := hh
        simp only at h1
        have hkn : Nat.min n len ≤ n := Nat.min_le_left ..
        have hkl : Nat.min n len ≤ len := Nat.min_le_right ..
        obtain ⟨NC, hN, rN⟩ := run_src_le (P := P) hi hxv hsrc hkn hk h3
        have hmul : Nat.min n len * i.size ≤ len * i.size := Nat.mul_le_mul_right _ hkl
        have hone : ∀ v ∈ nc.take (Nat.min n len * i.size), v.oneCell' = true := fun v hv => List.all_eq_true.1 h4 v (List.mem_of_mem_take hv)
        have htl : (nc.take (Nat.min n len * i.size)).length ≤ Nat.min n len * i.size := by simp; omega
        cases hv with
        | sliceEx _ _ _ _ l hl hlo =>
          obtain ⟨w', hrun, h5, h6⟩ := Inv.storeCells (P := P) hl off _ NC 0 c m w hi hg rN hone (by omega)
          exact ⟨w', key _ len cap NC w' hN (fun a h => by cases h; exact hrun) (fun h => by cases h), .int .., h5, h6⟩
        | sliceZero _ _ A => exact absurd (Nat.min_zero n) hk
        | sliceLoose _ _ _ _ off' cap' s l hl hlo hoff hlen' hcap hroom =>
          have : off' = l.base + off := hoff h2
          subst this
          obtain ⟨w', hrun, h5, h6⟩ := Inv.storeCells (P := P) hl off _ NC 0 c m w hi hg rN hone (by omega)
          exact ⟨w', key _ len cap' NC w' hN (fun a h => by cases h; exact hrun) (fun h => by cases h), .int .., h5, h6⟩
      · cases h
  · cases h

/- a text of bytes -/
def strOf : List Value → Option (List UInt8)
  | [] => some []
  | .int .u8 n :: r => (strOf r).map (UInt8.ofNat n.toNat :: ·)
  | _ :: _ => none

def runB2S (v : Value) (m : Mem) : Option Value :=
  match v with
  | .slice none _ _ => some (.string .empty)
  | .slice (some ⟨b, off, none⟩) len _ => if len = 0 then some (.string .empty) else (m.cellsAt b).bind fun c => if off + len ≤ c.length then (strOf ((c.drop off).take len)).map fun l => .string ⟨l.toArray⟩ else none
  | _ => none

theorem strOf_ok {φ : Ren} : ∀ (l L : List Value) (r : List UInt8), VRs φ l L → strOf l = some r → strOf L = some r := by
  intro l
  induction l with
  | nil =>
    intro L r hl h
    have : L = [] := by have := hl.1; simpa using this.symm
    subst this; exact h
  | cons v l ih =>
    intro L r hl h
    cases L with
    | nil => have := hl.1; simp at this
    | cons V L =>
      have hv : VR φ v V := hl.2 0 v V rfl rfl
      unfold strOf at h
      split at h
      · rename_i he; cases he
      · rename_i n r' he
        cases he
        cases hv
        simp only [Option.map_eq_some_iff] at h
        obtain ⟨q, hq, rfl⟩ := h
        have := ih L q ⟨by have := hl.1; simpa using this, fun i x y hx hy => hl.2 (i + 1) x y (by simpa using hx) (by simpa using hy)⟩ hq
        simp [strOf, this]
      · cases h

theorem run_strLoop {P : Program} {w : World} : ∀ (L : List Value) (s : ByteArray) (r : List UInt8), strOf L = some r →
    (forIn L s (fun c (s : ByteArray) => match c with
      | .int .u8 n => pure (ForInStep.yield (s.push (UInt8.ofNat n.toNat)))
      | _ => do
        (stuck "bytesToString: byte expected" : Sem PUnit)
        pure (ForInStep.yield s)) : Sem ByteArray).run P w = .ok ⟨s.data ++ r.toArray⟩ w := by
  intro L
  induction L with
  | nil =>
    intro s r h
    cases h
    simp
  | cons v L ih =>
    intro s r h
    unfold strOf at h
    split at h
    · rename_i he; cases he
    · rename_i n r' he
      cases he
      simp only [Option.map_eq_some_iff] at h
      obtain ⟨q, hq, rfl⟩ := h
      have := ih (s.push (UInt8.ofNat n.toNat)) q hq
      simp only [List.forIn_cons, Sem.run_bind, Sem.run_pure, Result.andThen_ok]
      rw [this]
      congr 2
      apply Array.toList_inj.1
      simp [ByteArray.push]
    · cases h

theorem sound_b2s {P : Program} {φ : Ren} {m : Mem} {w : World} (hi : Inv φ m w) {s d e : TypeId} (hs : P.underlying s = some (.slice e)) (hd : P.underlying d = some .string) (he : P.underlying e = some (.int .u8)) {v V u : Value} (hv : VR φ v V) (h : runB2S v m = some u) :
    (convert s d V).run P w = .ok u w ∧ VR φ u u := by
  have hconv : ∀ X : Value, (convert s d X).run P w = (Conv.bytesToString X).run P w ∨ (∀ a n c, X ≠ .slice a n c) := by
    intro X
    cases X with
    | slice a n c => left; simp [convert, run_und hs, run_und hd, run_und he]
    | _ => right; intro a n c h; cases h
  have conv : ∀ a n c, (convert s d (.slice a n c)).run P w = (Conv.bytesToString (.slice a n c)).run P w := fun a n c => (hconv _).resolve_right (fun h => h a n c rfl)
  unfold runB2S at h
  split at h
  · cases h
    cases hv
    exact ⟨by rw [conv]; simp [Conv.bytesToString], .string _⟩
  · rename_i b off len cap
    have fin : ∀ (a : Addr) (c : Nat) (L : List Value) (r : List UInt8), (Go.loadCells a len).run P w = .ok L.toArray w → strOf L = some r → (Conv.bytesToString (.slice (some a) len c)).run P w = .ok (.string ⟨r.toArray⟩) w := by
      intro a c L r h1 h2
      have := run_strLoop (P := P) (w := w) L ByteArray.empty r h2
      simp only [Conv.bytesToString, Sem.run_bind, h1, Result.andThen_ok]
      rw [← Array.forIn_toList, List.toList_toArray]
      refine Eq.trans (congrArg (fun x => Result.andThen x (fun (a : ByteArray) w' => Sem.run P (pure (Value.string a)) w')) this) ?_
      simp
    split at h
    · rename_i hz
      subst hz
      cases h
      refine ⟨?_, .string _⟩
      have h0 : ∀ a : Addr, (Go.loadCells a 0).run P w = .ok ([] : List Value).toArray w := fun a => by simp [Go.loadCells, Go.loadCellsFrom]
      cases hv with
      | sliceEx _ _ _ _ l hl hlo => rw [conv]; exact fin _ _ [] [] (h0 _) rfl
      | sliceZero _ _ A => rw [conv]; exact fin _ _ [] [] (h0 _) rfl
      | sliceLoose _ _ _ _ off' cap' s l hl hlo hoff hlen' hcap hroom => rw [conv]; exact fin _ _ [] [] (h0 _) rfl
    · rename_i hz
      simp only [Option.bind_eq_some_iff] at h
      obtain ⟨cs, hc, h⟩ := h
      split at h
      · rename_i hlen
        simp only [Option.map_eq_some_iff] at h
        obtain ⟨r, hr, rfl⟩ := h
        obtain ⟨e', ro, lo, hg⟩ := Mem.cellsAt_get hc
        refine ⟨?_, .string _⟩
        cases hv with
        | sliceEx _ _ _ _ l hl hlo =>
          obtain ⟨Vs, h1, h2⟩ := hi.loadCells (P := P) hg hl off len hlen
          rw [conv]; exact fin _ _ Vs r h1 (strOf_ok _ _ _ h2 hr)
        | sliceZero _ _ A => exact absurd rfl hz
        | sliceLoose _ _ _ _ off' cap' s l hl hlo hoff hlen' hcap hroom =>
          have : off' = l.base + off := hoff (by omega)
          subst this
          obtain ⟨Vs, h1, h2⟩ := hi.loadCells (P := P) hg hl off len hlen
          rw [conv]; exact fin _ _ Vs r h1 (strOf_ok _ _ _ h2 hr)
      · cases h
  · cases h

end Go.Fx
