/- More operations: comparisons with nil and of parts, signs, conversions, addresses, slices, lengths. -/
import Derived.Test.YtnngjdfadfblmaaGreatDoorFxOps2
namespace Go.Fx
open Go
set_option linter.unusedSimpArgs false
set_option linter.unusedVariables false

/-- Comparison of parts: the answer. -/
def runEq (neg : Bool) (d : EqD) (a b : Value) : Option Value := (aeqD d a b).map fun r => .bool (if neg then !r else r)

theorem VR.sc {φ : Ren} {k : ScK} {a A b B : Value} {r : Bool} (ha : VR φ a A) (hb : VR φ b B) (h : aeq1 k a b = some r) : A = a ∧ B = b := by
  unfold aeq1 at h
  split at h
  · cases ha; cases hb; exact ⟨rfl, rfl⟩
  · cases ha; cases hb; exact ⟨rfl, rfl⟩
  · cases ha; cases hb; exact ⟨rfl, rfl⟩
  · cases h

theorem VR.partOf {φ : Ren} {xs Xs : Array Value} (h : VRs φ xs.toList Xs.toList) {off size : Nat} {agg : Bool} {v : Value} (hp : Fx.partOf xs off size agg = some v) :
    ∃ V, Fx.partOf Xs off size agg = some V ∧ VR φ v V := by
  cases agg
  · simp only [Fx.partOf, Bool.false_eq_true, if_false] at hp ⊢
    obtain ⟨V, hV, r⟩ := h.get (i := off) (x := v) (by simpa using hp)
    exact ⟨V, by simpa using hV, r⟩
  · simp only [Fx.partOf, if_true, Option.some.injEq] at hp ⊢
    subst hp
    refine ⟨_, rfl, .agg _ _ ?_ ?_⟩
    · have := h.1; simp only [Array.length_toList] at this; simp [this]
    · intro i x y hx hy
      rw [Array.getElem?_extract] at hx hy
      split at hx
      · split at hy
        · exact h.2 _ x y (by simpa using hx) (by simpa using hy)
        · cases hy
      · cases hx

mutual
theorem aeqD_ok {φ : Ren} : ∀ (d : EqD) (a b A B : Value) (r : Bool), VR φ a A → VR φ b B → aeqD d a b = some r → aeqD d A B = some r
  | .sc k, a, b, A, B, r, ha, hb, h => by
    simp only [aeqD] at h ⊢
    obtain ⟨rfl, rfl⟩ := VR.sc ha hb h
    exact h
  | .st fs, a, b, A, B, r, ha, hb, h => by
    unfold aeqD at h
    split at h
    · rename_i he; cases he
    · rename_i he
      cases he
      cases ha with
      | agg xs Xs hs1 hs2 =>
      cases hb with
      | agg ys Ys ht1 ht2 =>
      simp only [aeqD]
      exact aeqFs_ok fs _ _ _ _ r (VRs.of_array hs1 hs2) (VRs.of_array ht1 ht2) h
    · cases h
theorem aeqFs_ok {φ : Ren} : ∀ (fs : List (Nat × Nat × Bool × EqD)) (xs ys Xs Ys : Array Value) (r : Bool), VRs φ xs.toList Xs.toList → VRs φ ys.toList Ys.toList → aeqFs fs xs ys = some r → aeqFs fs Xs Ys = some r
  | [], _, _, _, _, r, _, _, h => by simpa [aeqFs] using h
  | (off, size, agg, d) :: rest, xs, ys, Xs, Ys, r, hx, hy, h => by
    simp only [aeqFs] at h ⊢
    split at h
    · rename_i x y h1 h2
      obtain ⟨X, hX, rx⟩ := VR.partOf hx h1
      obtain ⟨Y, hY, ry⟩ := VR.partOf hy h2
      rw [hX, hY]
      simp only
      split at h
      · rename_i hd
        rw [aeqD_ok d x y X Y true rx ry hd]
        exact aeqFs_ok rest xs ys Xs Ys r hx hy h
      · rename_i hd
        rw [aeqD_ok d x y X Y false rx ry hd]
        exact h
      · cases h
    · cases h
end

theorem sound_eq {P : Program} {φ : Ren} {w : World} {neg : Bool} {fs : List (Nat × Nat × Bool × EqD)} {t : TypeId} {x y : Operand} {a b A B u : Value} (hok : eqOk P (.st fs) t = true) (hg : P.eqGuardType P.depth t = false)
    (hdep : (EqD.st fs).depth ≤ 10000) (ha : VR φ a A) (hb : VR φ b B) (h : runEq neg (.st fs) a b = some u) :
    ((do eqGuard (if neg then .neq else .eql) t x y A B; Go.binOp (if neg then .neq else .eql) t A B : Sem Value)).run P w = .ok u w ∧ VR φ u u := by
  simp only [runEq, Option.map_eq_some_iff] at h
  obtain ⟨r, hr, rfl⟩ := h
  have hR := aeqD_ok _ _ _ _ _ _ ha hb hr
  have hrun := run_eqD (P := P) (w := w) _ 10000 t A B r hdep hok hR
  have hagg : ∃ xs ys, A = .agg xs ∧ B = .agg ys := by
    unfold aeqD at hR
    split at hR
    · rename_i he; cases he
    · exact ⟨_, _, rfl, rfl⟩
    · cases hR
  obtain ⟨xs, ys, rfl, rfl⟩ := hagg
  refine ⟨?_, .bool _⟩
  simp only [Sem.run_bind, run_eqGuard_agg w _ t x y xs ys hg, Result.andThen_ok]
  cases neg
  · simp only [Bool.false_eq_true, if_false]
    rw [run_eql_struct, hrun]; rfl
  · simp only [if_true]
    rw [run_neq_struct, hrun]; rfl

/-- The shapes of two values whose comparison goes by their type. -/
def eqShape : Value → Value → Bool
  | .bool _, .bool _ | .pointer _, .pointer _ | .slice _ _ _, .slice _ _ _ | .map _, .map _ | .nilFunc, .nilFunc | .nilFunc, .func _ _ _ | .func _ _ _, .nilFunc => true
  | _, _ => false

theorem run_binEq {P : Program} {w : World} {neg : Bool} {t : TypeId} {x y : Operand} {A B : Value} {r : Bool} (hs : eqShape A B = true) (h : (Op.equalIn 10000 t A B).run P w = .ok r w) :
    ((do eqGuard (if neg then .neq else .eql) t x y A B; Go.binOp (if neg then .neq else .eql) t A B : Sem Value)).run P w = .ok (.bool (if neg then !r else r)) w := by
  unfold eqShape at hs
  split at hs
  all_goals first
    | (cases hs; done)
    | (cases neg
       · simp only [Bool.false_eq_true, if_false, Sem.run_bind]
         rw [show ∀ A B, Op.equalIn 10000 t A B = Op.equal t A B from fun _ _ => rfl] at h
         simp only [eqGuard, Go.binOp, Bool.not_true, Bool.false_eq_true, if_false, Sem.run_pure, Result.andThen_ok, Sem.run_bind, h]
       · simp only [if_true, Sem.run_bind]
         rw [show ∀ A B, Op.equalIn 10000 t A B = Op.equal t A B from fun _ _ => rfl] at h
         simp only [eqGuard, Go.binOp, Bool.not_true, Bool.false_eq_true, if_false, Sem.run_pure, Result.andThen_ok, Sem.run_bind, h])

/- one value of a plain kind: a truth value (numbers and texts go by 'arith') -/
def runEqBool (neg : Bool) (a b : Value) : Option Value :=
  match a, b with
  | .bool x, .bool y => some (.bool (if neg then !(x == y) else x == y))
  | _, _ => none

theorem sound_eqBool {P : Program} {φ : Ren} {w : World} {neg : Bool} {t : TypeId} {x y : Operand} {a b A B u : Value} (ht : P.underlying t = some .bool) (ha : VR φ a A) (hb : VR φ b B) (h : runEqBool neg a b = some u) :
    ((do eqGuard (if neg then .neq else .eql) t x y A B; Go.binOp (if neg then .neq else .eql) t A B : Sem Value)).run P w = .ok u w ∧ VR φ u u := by
  unfold runEqBool at h
  split at h
  · rename_i p q
    cases h
    cases ha; cases hb
    exact ⟨run_binEq rfl (run_eq1 (n := 9999) (k := .bool) (by simp [eqOk, ht]) rfl), .bool _⟩
  · cases h

/- against nil -/
/-- Of two values of a kind that may be nil one is nil: are both? -/
def bothNil (a b : Value) : Option Bool :=
  match a, b with
  | .pointer none, .pointer y => some y.isNone
  | .pointer (some _), .pointer none => some false
  | .slice none _ _, .slice y _ _ => some y.isNone
  | .slice (some _) _ _, .slice none _ _ => some false
  | .map none, .map y => some y.isNone
  | .map (some _), .map none => some false
  | .nilFunc, .nilFunc => some true
  | .func _ _ _, .nilFunc => some false
  | .nilFunc, .func _ _ _ => some false
  | _, _ => none

inductive NilK where
  | ptr | slice | map | func
  deriving DecidableEq

def nilKind : Value → Option NilK
  | .pointer _ => some .ptr
  | .slice .. => some .slice
  | .map _ => some .map
  | .nilFunc | .func .. => some .func
  | _ => none

def nilKindT (P : Program) (t : TypeId) : Option NilK :=
  match P.underlying t with
  | some (.pointer _) => some .ptr
  | some (.slice _) => some .slice
  | some (.map ..) => some .map
  | some (.func ..) => some .func
  | _ => none

def runEqNil (k : NilK) (neg : Bool) (a b : Value) : Option Value := if nilKind a = some k then (bothNil a b).map fun r => .bool (if neg then !r else r) else none

theorem bothNil_ok {φ : Ren} {a b A B : Value} {r : Bool} (ha : VR φ a A) (hb : VR φ b B) (h : bothNil a b = some r) : bothNil A B = some r ∧ nilKind A = nilKind a := by
  unfold bothNil at h
  split at h <;> first | (cases h; done) | (cases ha <;> cases hb <;> first | (cases h; exact ⟨rfl, rfl⟩))

theorem run_bothNil {P : Program} {w : World} (n : Nat) {t : TypeId} {A B : Value} {r : Bool} {k : NilK} (ht : nilKindT P t = some k) (hk : nilKind A = some k) (h : bothNil A B = some r) : (Op.equalIn (n + 1) t A B).run P w = .ok r w ∧ eqShape A B = true := by
  cases hd : P.underlying t with
  | none => simp [nilKindT, hd] at ht
  | some d =>
    unfold bothNil at h
    split at h <;> first
      | (cases h; done)
      | (cases h; refine ⟨?_, rfl⟩; cases d <;> simp [nilKindT, hd, nilKind] at ht hk <;> first | (subst ht; cases hk; done) | simp [Op.equalIn, run_und hd])

theorem sound_eqNil {P : Program} {φ : Ren} {w : World} {neg : Bool} {k : NilK} {t : TypeId} {x y : Operand} {a b A B u : Value} (ht : nilKindT P t = some k) (ha : VR φ a A) (hb : VR φ b B) (h : runEqNil k neg a b = some u) :
    ((do eqGuard (if neg then .neq else .eql) t x y A B; Go.binOp (if neg then .neq else .eql) t A B : Sem Value)).run P w = .ok u w ∧ VR φ u u := by
  unfold runEqNil at h
  split at h
  · rename_i hk
    simp only [Option.map_eq_some_iff] at h
    obtain ⟨r, hr, rfl⟩ := h
    obtain ⟨h1, h2⟩ := bothNil_ok ha hb hr
    obtain ⟨h3, h4⟩ := run_bothNil (w := w) 9999 ht (h2.trans hk) h1
    exact ⟨run_binEq h4 h3, .bool _⟩
  · cases h

/- signs -/
def runUn (op : UnOp) (a : Value) : Option Value :=
  match op, a with
  | .neg, .int k n => some (.int k (k.wrap (0 - n)))
  | .xor, .int k n => (ibits .xor k (if k.signed then -1 else k.max) n).map (.int k)
  | .not, .bool b => some (.bool !b)
  | _, _ => none

theorem sound_un {P : Program} {φ : Ren} {w : World} {op : UnOp} {a A u : Value} (ha : VR φ a A) (h : runUn op a = some u) : (Op.unary op A).run P w = .ok u w ∧ VR φ u u := by
  unfold runUn at h
  split at h
  · cases h; cases ha; exact ⟨by simp [Op.unary, Op.intArith], .int ..⟩
  · cases ha
    simp [ibits] at h
    subst h
    exact ⟨by simp [Op.unary, Op.intBits], .int ..⟩
  · cases h; cases ha; exact ⟨by simp [Op.unary], .bool ..⟩
  · cases h

/- conversions of integers -/
def runConv (k : IntKind) (a : Value) : Option Value :=
  match a with
  | .int _ n => some (.int k (k.wrap n))
  | _ => none

theorem sound_conv {P : Program} {φ : Ren} {w : World} {s d : TypeId} {ds : TypeDesc} {k : IntKind} {a A u : Value} (hs : P.underlying s = some ds) (hd : P.underlying d = some (.int k)) (ha : VR φ a A) (h : runConv k a = some u) :
    (convert s d A).run P w = .ok u w ∧ VR φ u u := by
  unfold runConv at h
  split at h
  · cases h; cases ha
    exact ⟨by simp [convert, run_und hs, run_und hd, Conv.intToInt], .int ..⟩
  · cases h

/- addresses of parts -/
def runFieldAddr (o : Nat) (v : Value) : Option Value := (asPtr v).map fun p => .pointer (some ⟨p.1, p.2 + o, none⟩)

theorem sound_fieldAddr {P : Program} {φ : Ren} {w : World} {t : TypeId} {fs : Array Field} {k : Nat} {f : Field} {i : TypeInfo} {v V u : Value} (ht : P.underlying t = some (.struct fs)) (hf : fs[k]? = some f) (hi : P.info? f.type = some i) (hz : i.size ≠ 0)
    (hv : VR φ v V) (h : runFieldAddr f.offset v = some u) : ∃ U, (Instr.fieldAt t V k).run P w = .ok U w ∧ VR φ u U := by
  simp only [runFieldAddr, Option.map_eq_some_iff] at h
  obtain ⟨⟨b, off⟩, hp, rfl⟩ := h
  obtain ⟨l, hl, rfl⟩ := asPtr_ok hv hp
  refine ⟨.pointer (some ⟨l.blk, l.base + (off + f.offset), none⟩), ?_, .ptr _ _ _ hl⟩
  simp [Instr.fieldAt, run_und ht, hf, Instr.sureAddr, fieldPlace, run_size hi, hz, add_mk, Nat.add_assoc]

def runField (off size : Nat) (agg : Bool) (v : Value) : Option Value :=
  match v with
  | .agg cs => partOf cs off size agg
  | _ => none

theorem sound_field {P : Program} {φ : Ren} {w : World} {t : TypeId} {fs : Array Field} {k : Nat} {f : Field} {n : Nat} {agg : Bool} {v V u : Value} (ht : P.underlying t = some (.struct fs)) (hf : fs[k]? = some f)
    (hn : (P.info? f.type).map (·.size) = some n) (hagg : aggT P f.type = some agg) (hv : VR φ v V) (h : runField f.offset n agg v = some u) : ∃ U, (Instr.field t V k).run P w = .ok U w ∧ VR φ u U := by
  unfold runField at h
  split at h
  · cases hv with
    | agg xs Xs h1 h2 =>
    obtain ⟨U, hU, r⟩ := VR.partOf (VRs.of_array h1 h2) h
    exact ⟨U, by simp [Instr.field, run_und ht, hf, asAgg, run_part hagg hn hU], r⟩
  · cases h

def runIndexS (size : Nat) (v i : Value) : Option Value :=
  match v, i with
  | .slice (some ⟨b, off, none⟩) len _, .int _ n => if 0 ≤ n ∧ n < len then some (.pointer (some ⟨b, off + n.toNat * size, none⟩)) else none
  | _, _ => none

theorem sound_indexS {P : Program} {φ : Ren} {w : World} {t e : TypeId} {i : TypeInfo} {v V x X u : Value} (ht : P.underlying t = some (.slice e)) (hi : P.info? e = some i) (hv : VR φ v V) (hx : VR φ x X) (h : runIndexS i.size v x = some u) :
    ∃ U, (Instr.indexAt t V X).run P w = .ok U w ∧ VR φ u U := by
  unfold runIndexS at h
  split at h
  · rename_i b off len cap k n
    split at h
    · rename_i hn
      cases h
      cases hx
      cases hv with
      | sliceEx _ _ _ _ l hl hlo =>
        refine ⟨.pointer (some ⟨l.blk, l.base + (off + n.toNat * i.size), none⟩), ?_, .ptr _ _ _ hl⟩
        simp [Instr.indexAt, asIntOf, run_und ht, run_size hi, add_mk, hn, Nat.add_assoc]
      | sliceZero _ _ A => exfalso; omega
      | sliceLoose _ _ _ _ off' cap' s l hl hlo hoff hlen hcap hroom =>
        have : off' = l.base + off := hoff (by omega)
        subst this
        refine ⟨.pointer (some ⟨l.blk, l.base + (off + n.toNat * i.size), none⟩), ?_, .ptr _ _ _ hl⟩
        simp [Instr.indexAt, asIntOf, run_und ht, run_size hi, add_mk, hn, Nat.add_assoc]
    · cases h
  · cases h

def runIndexA (len size : Nat) (v i : Value) : Option Value :=
  match v, i with
  | .pointer (some ⟨b, off, none⟩), .int _ n => if 0 ≤ n ∧ n < len then some (.pointer (some ⟨b, off + n.toNat * size, none⟩)) else none
  | _, _ => none

theorem sound_indexA {P : Program} {φ : Ren} {w : World} {t e : TypeId} {len : Nat} {i : TypeInfo} {v V x X u : Value} (ht : P.underlying t = some (.array len e)) (hi : P.info? e = some i) (hv : VR φ v V) (hx : VR φ x X) (h : runIndexA len i.size v x = some u) :
    ∃ U, (Instr.indexAt t V X).run P w = .ok U w ∧ VR φ u U := by
  unfold runIndexA at h
  split at h
  · rename_i b off k n
    split at h
    · rename_i hn
      cases h
      cases hx
      cases hv with
      | ptr _ _ l hl =>
        refine ⟨.pointer (some ⟨l.blk, l.base + (off + n.toNat * i.size), none⟩), ?_, .ptr _ _ _ hl⟩
        simp [Instr.indexAt, asIntOf, Instr.sureAddr, run_und ht, run_size hi, add_mk, hn, Nat.add_assoc]
    · cases h
  · cases h

def runIndexStr (v i : Value) : Option Value :=
  match v, i with
  | .string s, .int _ n => if 0 ≤ n then (s[n.toNat]?).map fun b => .int .u8 b.toNat else none
  | _, _ => none

theorem sound_indexStr {P : Program} {φ : Ren} {w : World} {t : TypeId} {v V x X u : Value} (ht : P.underlying t = some .string) (hv : VR φ v V) (hx : VR φ x X) (h : runIndexStr v x = some u) :
    (Instr.index t V X).run P w = .ok u w ∧ VR φ u u := by
  unfold runIndexStr at h
  split at h
  · split at h
    · rename_i hn
      simp only [Option.map_eq_some_iff] at h
      obtain ⟨b, hb, rfl⟩ := h
      cases hv; cases hx
      exact ⟨by simp [Instr.index, asIntOf, run_und ht, hn, hb], .int ..⟩
    · cases h
  · cases h

def runIndexArr (len size : Nat) (agg : Bool) (v i : Value) : Option Value :=
  match v, i with
  | .agg cs, .int _ n => if 0 ≤ n ∧ n < len then partOf cs (n.toNat * size) size agg else none
  | _, _ => none

theorem sound_indexArr {P : Program} {φ : Ren} {w : World} {t e : TypeId} {len : Nat} {i : TypeInfo} {agg : Bool} {v V x X u : Value} (ht : P.underlying t = some (.array len e)) (hi : P.info? e = some i) (hagg : aggT P e = some agg) (hv : VR φ v V) (hx : VR φ x X)
    (h : runIndexArr len i.size agg v x = some u) : ∃ U, (Instr.index t V X).run P w = .ok U w ∧ VR φ u U := by
  unfold runIndexArr at h
  split at h
  · split at h
    · rename_i hn
      cases hx
      cases hv with
      | agg xs Xs h1 h2 =>
      obtain ⟨U, hU, r⟩ := VR.partOf (VRs.of_array h1 h2) h
      exact ⟨U, by simp [Instr.index, asIntOf, run_und ht, hn, run_size hi, run_part hagg (by rw [hi]; rfl) hU], r⟩
    · cases h
  · cases h

end Go.Fx
