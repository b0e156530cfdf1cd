/- More operations: numbers, texts, comparisons, addresses, slices. -/
import Derived.Test.YtnngjdfadfblmaaGreatDoorFxOps
import Derived.Laws.StructEq
namespace Go.Fx
open Go
set_option linter.unusedSimpArgs false
set_option linter.unusedVariables false

/- two operands of one kind of number or text -/
def ibits (op : BinOp) (k : IntKind) (x y : Int) : Option Int :=
  let a := BitVec.ofInt k.bits x
  let b := BitVec.ofInt k.bits y
  match op with
  | .and => some (k.wrap ((a &&& b).toNat : Int))
  | .or => some (k.wrap ((a ||| b).toNat : Int))
  | .xor => some (k.wrap ((a ^^^ b).toNat : Int))
  | .andNot => some (k.wrap ((a &&& ~~~b).toNat : Int))
  | _ => none

def iop (op : BinOp) (k : IntKind) (x y : Int) : Option Value :=
  match op with
  | .add => some (.int k (k.wrap (x + y)))
  | .sub => some (.int k (k.wrap (x - y)))
  | .mul => some (.int k (k.wrap (x * y)))
  | .quo => if y = 0 then none else some (.int k (k.wrap (x.tdiv y)))
  | .rem => if y = 0 then none else some (.int k (x.tmod y))
  | .eql => some (.bool (x == y))
  | .neq => some (.bool (x != y))
  | .lss => some (.bool (x < y))
  | .leq => some (.bool (x ≤ y))
  | .gtr => some (.bool (x > y))
  | .geq => some (.bool (x ≥ y))
  | .and | .or | .xor | .andNot => (ibits op k x y).map (.int k)
  | _ => none

def sop (op : BinOp) (x y : ByteArray) : Option Value :=
  match op with
  | .add => if ((x.size + y.size : Nat) : Int) > IntKind.i64.max then none else some (.string (x ++ y))
  | .eql => some (.bool (x.data.toList == y.data.toList))
  | .neq => some (.bool !(x.data.toList == y.data.toList))
  | .lss => some (.bool (Op.bytesLess x.data.toList y.data.toList))
  | .leq => some (.bool (Op.bytesLess x.data.toList y.data.toList || x.data.toList == y.data.toList))
  | .gtr => some (.bool !(Op.bytesLess x.data.toList y.data.toList || x.data.toList == y.data.toList))
  | .geq => some (.bool !(Op.bytesLess x.data.toList y.data.toList))
  | _ => none

def arith (op : BinOp) (a b : Value) : Option Value :=
  match op, a, b with
  | .shl, .int k x, .int _ y => if y < 0 then none else some (.int k (k.wrap (x * 2 ^ (min y.toNat k.bits))))
  | .shr, .int k x, .int _ y => if y < 0 then none else some (.int k (x.fdiv (2 ^ (min y.toNat k.bits))))
  | op, .int k x, .int k' y => if k = k' then iop op k x y else none
  | op, .string x, .string y => sop op x y
  | _, _, _ => none

theorem run_binOp_int {P : Program} {w : World} {op : BinOp} {t : TypeId} {k : IntKind} {x y : Int} {v : Value} (h1 : op ≠ .shl) (h2 : op ≠ .shr) (h : iop op k x y = some v) :
    (Go.binOp op t (.int k x) (.int k y)).run P w = .ok v w := by
  cases op <;> simp [iop, ibits] at h h1 h2 <;> simp [Go.binOp, Op.intArith, Op.intDiv, Op.intBits, Op.intCmp, h]
  all_goals (obtain ⟨h3, h4⟩ := h; simp [h3, h4])

theorem run_binOp_str {P : Program} {w : World} {op : BinOp} {t : TypeId} {x y : ByteArray} {v : Value} (h : sop op x y = some v) :
    (Go.binOp op t (.string x) (.string y)).run P w = .ok v w := by
  cases op <;> simp [sop] at h <;> simp [Go.binOp, Op.stringOp, ByteArray.toList_eq, h]
  all_goals (obtain ⟨h3, h4⟩ := h; simp [h4]; omega)

theorem run_eqGuard_int {P : Program} {w : World} {op : BinOp} {t : TypeId} {x y : Operand} {k k' : IntKind} {a b : Int} : (eqGuard op t x y (.int k a) (.int k' b)).run P w = .ok () w := by
  cases op <;> simp [eqGuard]
theorem run_eqGuard_str {P : Program} {w : World} {op : BinOp} {t : TypeId} {x y : Operand} {a b : ByteArray} : (eqGuard op t x y (.string a) (.string b)).run P w = .ok () w := by
  cases op <;> simp [eqGuard]

theorem sound_arith {P : Program} {φ : Ren} {w : World} {op : BinOp} {t : TypeId} {x y : Operand} {a b A B u : Value} (ha : VR φ a A) (hb : VR φ b B) (h : arith op a b = some u) :
    ((do eqGuard op t x y A B; Go.binOp op t A B : Sem Value)).run P w = .ok u w ∧ VR φ u u := by
  have hg : A = a ∧ B = b ∧ ((∃ k i, a = .int k i) ∧ (∃ k i, b = .int k i) ∨ (∃ s, a = .string s) ∧ (∃ s, b = .string s)) := by
    unfold arith at h
    split at h
    · cases ha; cases hb; exact ⟨rfl, rfl, .inl ⟨⟨_, _, rfl⟩, ⟨_, _, rfl⟩⟩⟩
    · cases ha; cases hb; exact ⟨rfl, rfl, .inl ⟨⟨_, _, rfl⟩, ⟨_, _, rfl⟩⟩⟩
    · cases ha; cases hb; exact ⟨rfl, rfl, .inl ⟨⟨_, _, rfl⟩, ⟨_, _, rfl⟩⟩⟩
    · cases ha; cases hb; exact ⟨rfl, rfl, .inr ⟨⟨_, rfl⟩, ⟨_, rfl⟩⟩⟩
    · cases h
  obtain ⟨rfl, rfl, hs⟩ := hg
  have he : (eqGuard op t x y A B).run P w = .ok () w := by
    rcases hs with ⟨⟨k, i, rfl⟩, ⟨k', i', rfl⟩⟩ | ⟨⟨s, rfl⟩, ⟨s', rfl⟩⟩
    · exact run_eqGuard_int
    · exact run_eqGuard_str
  simp only [Sem.run_bind, he, Result.andThen_ok]
  rcases hs with ⟨⟨k, i, rfl⟩, ⟨k', i', rfl⟩⟩ | ⟨⟨s, rfl⟩, ⟨s', rfl⟩⟩
  · by_cases h1 : op = .shl
    · subst h1
      simp only [arith] at h
      split at h
      · cases h
      · cases h
        rename_i hn
        exact ⟨by simp [Go.binOp, Op.shift, hn], .int ..⟩
    · by_cases h2 : op = .shr
      · subst h2
        simp only [arith] at h
        split at h
        · cases h
        · cases h
          rename_i hn
          exact ⟨by simp [Go.binOp, Op.shift, hn], .int ..⟩
      · have h3 : (if k = k' then iop op k i i' else none) = some u := by
          cases op <;> simp [arith] at h h1 h2 ⊢ <;> exact h
        split at h3
        · rename_i hk
          subst hk
          refine ⟨run_binOp_int h1 h2 h3, ?_⟩
          cases op <;> simp [iop, ibits] at h3
          all_goals first
            | (subst h3; first | exact .int .. | exact .bool ..)
            | (obtain ⟨_, h4⟩ := h3; subst h4; first | exact .int .. | exact .bool ..)
        · cases h3
  · have h3 : sop op s s' = some u := by cases op <;> simpa [arith] using h
    refine ⟨run_binOp_str h3, ?_⟩
    cases op <;> simp [sop] at h3
    all_goals first
      | (subst h3; first | exact .string .. | exact .bool ..)
      | (obtain ⟨_, h4⟩ := h3; subst h4; first | exact .string .. | exact .bool ..)

/- comparison part by part -/
inductive ScK where
  | bool | int | string

inductive EqD where
  | sc (k : ScK)
  | st (fs : List (Nat × Nat × Bool × EqD))

def aeq1 : ScK → Value → Value → Option Bool
  | .bool, .bool a, .bool b => some (a == b)
  | .int, .int k a, .int k' b => if k = k' then some (a == b) else none
  | .string, .string a, .string b => some (a == b)
  | _, _, _ => none

def partOf (cs : Array Value) (off size : Nat) (agg : Bool) : Option Value :=
  if agg then some (.agg (cs.extract off (off + size))) else cs[off]?

mutual
def aeqD : EqD → Value → Value → Option Bool
  | .sc k, a, b => aeq1 k a b
  | .st fs, .agg xs, .agg ys => aeqFs fs xs ys
  | .st _, _, _ => none
def aeqFs : List (Nat × Nat × Bool × EqD) → Array Value → Array Value → Option Bool
  | [], _, _ => some true
  | (off, size, agg, d) :: r, xs, ys =>
    match partOf xs off size agg, partOf ys off size agg with
    | some x, some y =>
      match aeqD d x y with
      | some true => aeqFs r xs ys
      | some false => some false
      | none => none
    | _, _ => none
end

mutual
/-- Is a type compared as is said? -/
def eqOk (P : Program) : EqD → TypeId → Bool
  | .sc .bool, t => match P.underlying t with
    | some .bool => true
    | _ => false
  | .sc .int, t => match P.underlying t with
    | some (.int _) => true
    | _ => false
  | .sc .string, t => match P.underlying t with
    | some .string => true
    | _ => false
  | .st fs, t => match P.underlying t with
    | some (.struct fields) => !P.stoodInHeld t && eqOkFs P fs fields.toList
    | _ => false
def eqOkFs (P : Program) : List (Nat × Nat × Bool × EqD) → List Field → Bool
  | [], [] => true
  | (off, size, agg, d) :: r, f :: fs =>
    f.name != "_" && f.offset == off && (P.info? f.type).map (·.size) == some size && aggT P f.type == some agg && eqOk P d f.type && eqOkFs P r fs
  | _, _ => false
end

mutual
def EqD.depth : EqD → Nat
  | .sc _ => 1
  | .st fs => EqD.depths fs + 1
def EqD.depths : List (Nat × Nat × Bool × EqD) → Nat
  | [] => 0
  | (_, _, _, d) :: r => max (EqD.depth d) (EqD.depths r)
end

theorem run_part {P : Program} {w : World} {t : TypeId} {b : Bool} {n off : Nat} {cs : Array Value} {v : Value} (hb : aggT P t = some b) (hn : (P.info? t).map (·.size) = some n) (h : partOf cs off n b = some v) :
    (part t cs off).run P w = .ok v w := by
  cases hi : P.info? t with
  | none => rw [hi] at hn; cases hn
  | some i =>
    rw [hi] at hn
    simp only [Option.map_some, Option.some.injEq] at hn
    subst hn
    simp only [part, Sem.run_bind, run_isAgg hb, Result.andThen_ok]
    cases b
    · simp only [partOf, Bool.false_eq_true, if_false] at h
      simp [h]
    · simp only [partOf, if_true, Option.some.injEq] at h
      subst h
      simp [run_size hi]

theorem run_eq1 {P : Program} {w : World} {n : Nat} {t : TypeId} {k : ScK} {x y : Value} {r : Bool} (hok : eqOk P (.sc k) t = true) (h : aeq1 k x y = some r) : (Op.equalIn (n + 1) t x y).run P w = .ok r w := by
  unfold aeq1 at h
  split at h
  · simp only [eqOk] at hok
    split at hok
    · rename_i hd
      cases h
      simp [Op.equalIn, run_und hd]
    · cases hok
  · simp only [eqOk] at hok
    split at hok
    · rename_i hd
      split at h
      · rename_i hk
        subst hk
        cases h
        simp [Op.equalIn, run_und hd]
      · cases h
    · cases hok
  · simp only [eqOk] at hok
    split at hok
    · rename_i hd
      cases h
      simp [Op.equalIn, run_und hd]
    · cases hok
  · cases h

mutual
theorem run_eqD {P : Program} {w : World} : ∀ (d : EqD) (n : Nat) (t : TypeId) (x y : Value) (r : Bool), d.depth ≤ n → eqOk P d t = true → aeqD d x y = some r → (Op.equalIn n t x y).run P w = .ok r w
  | .sc _, 0, _, _, _, _, hn, _, _ => by simp [EqD.depth] at hn
  | .st _, 0, _, _, _, _, hn, _, _ => by simp [EqD.depth] at hn
  | .sc k, n + 1, t, x, y, r, _, hok, h => run_eq1 hok (by simpa [aeqD] using h)
  | .st fs, n + 1, t, x, y, r, hn, hok, h => by
    simp only [EqD.depth] at hn
    simp only [eqOk] at hok
    split at hok
    · rename_i fields hd
      simp only [Bool.and_eq_true, Bool.not_eq_true'] at hok
      have hf : P.fieldsOf t = fields := by simp [Program.fieldsOf, hd]
      unfold aeqD at h
      split at h
      · rename_i he
        cases he
      · rename_i he
        cases he
        rw [run_equalIn_struct w n t _ _ (by rw [hf]; exact hd) hok.1, hf]
        exact run_eqFs fs n fields.toList _ _ r (by omega) hok.2 h
      · cases h
    · cases hok
theorem run_eqFs {P : Program} {w : World} : ∀ (fs : List (Nat × Nat × Bool × EqD)) (n : Nat) (fields : List Field) (xs ys : Array Value) (r : Bool), EqD.depths fs ≤ n → eqOkFs P fs fields = true → aeqFs fs xs ys = some r →
    (Op.eqFields n xs ys fields).run P w = .ok r w
  | [], n, [], xs, ys, r, _, _, h => by
    simp only [aeqFs, Option.some.injEq] at h
    subst h
    simp [Op.eqFields]
  | [], n, _ :: _, xs, ys, r, _, hok, _ => by simp [eqOkFs] at hok
  | _ :: _, n, [], xs, ys, r, _, hok, _ => by simp [eqOkFs] at hok
  | (off, size, agg, d) :: rest, n, f :: fields, xs, ys, r, hn, hok, h => by
    simp only [EqD.depths] at hn
    simp only [eqOkFs, Bool.and_eq_true, bne_iff_ne, ne_eq, beq_iff_eq] at hok
    obtain ⟨⟨⟨⟨⟨h1, h2⟩, h3⟩, h4⟩, h5⟩, h6⟩ := hok
    simp only [aeqFs] at h
    split at h
    · rename_i x y hx hy
      subst h2
      simp only [Op.eqFields, ne_eq, h1, not_false_eq_true, if_true, Sem.run_bind, run_part h4 h3 hx, run_part h4 h3 hy, Result.andThen_ok]
      split at h
      · rename_i hd
        rw [run_eqD d n f.type x y true (by omega) h5 hd]
        simp only [Result.andThen_ok, Bool.not_true, Bool.false_eq_true, if_false]
        exact run_eqFs rest n fields xs ys r (by omega) h6 h
      · rename_i hd
        cases h
        rw [run_eqD d n f.type x y false (by omega) h5 hd]
        simp
      · cases h
    · cases h
end

end Go.Fx
