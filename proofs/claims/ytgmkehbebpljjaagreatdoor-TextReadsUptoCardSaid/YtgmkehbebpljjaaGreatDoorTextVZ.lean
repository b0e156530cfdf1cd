/- The reference's number of a word, and its value: the plain law. -/
import Derived.Test.YtgmkehbebpljjaaGreatDoorTextTn
import Derived.Test.YtgmkehbebpljjaaGreatDoorTextPS
import Derived.Test.YtgmkehbebpljjaaGreatDoorTextPS
import Derived.Test.YtgmkehbebpljjaaGreatDoorTextPS
namespace Go.Fx.Tryz
open Go Go.Fx
set_option linter.unusedSimpArgs false
set_option linter.unusedVariables false

def valD (acc : Nat) : List UInt8 → Option Nat
  | [] => some acc
  | c :: r => if 48 ≤ c.toNat ∧ c.toNat ≤ 57 then valD (acc * 10 + (c.toNat - 48)) r else none
theorem valD_snoc : ∀ (l : List UInt8) (acc : Nat) (c : UInt8), valD acc (l ++ [c]) = (valD acc l).bind fun a => if 48 ≤ c.toNat ∧ c.toNat ≤ 57 then some (a * 10 + (c.toNat - 48)) else none
  | [], acc, c => by simp [valD]
  | x :: l, acc, c => by
    rw [List.cons_append, valD, valD]
    split
    · exact valD_snoc l _ c
    · rfl
theorem valD_lt : ∀ (l : List UInt8) (acc n : Nat), valD acc l = some n → n < (acc + 1) * 10 ^ l.length
  | [], acc, n, h => by simp [valD] at h; subst h; simp
  | c :: r, acc, n, h => by
    rw [valD] at h
    split at h
    · have := valD_lt r _ _ h
      have h2 : (acc * 10 + (c.toNat - 48) + 1) * 10 ^ r.length ≤ ((acc + 1) * 10) * 10 ^ r.length := Nat.mul_le_mul_right _ (by omega)
      rw [List.length_cons, Nat.pow_succ, Nat.mul_comm (10 ^ r.length) 10, ← Nat.mul_assoc]
      omega
    · cases h
theorem dd_val : ∀ (k : Nat) (l : List UInt8) (n : Nat), l.length = k + 1 → valD 0 l = some n → (l.head? ≠ some 48 ∨ k = 0) → Lib.decDigits n = l := by
  intro k
  induction k with
  | zero =>
    intro l n hl h _
    match l, hl with
    | [c], _ =>
      simp only [valD] at h
      split at h
      · rename_i hc
        simp only [Option.some.injEq] at h
        subst h
        rw [Lib.decDigits, dif_pos (by omega)]
        congr 1
        apply UInt8.toNat_inj.1
        rw [dig_nat (by omega)]; omega
      · cases h
  | succ k ih =>
    intro l n hl h hh
    have hne : l ≠ [] := by intro e; rw [e] at hl; simp at hl
    have hsp : l = l.dropLast ++ [l.getLast hne] := (List.dropLast_concat_getLast hne).symm
    have hdl : l.dropLast.length = k + 1 := by simp [hl]
    generalize l.getLast hne = c at hsp
    generalize l.dropLast = l' at hsp hdl
    subst hsp
    rw [valD_snoc] at h
    cases ha : valD 0 l' with
    | none => rw [ha] at h; cases h
    | some a =>
      rw [ha] at h
      simp only [Option.bind_some] at h
      split at h
      · rename_i hc
        simp only [Option.some.injEq] at h
        have hh' : l'.head? ≠ some 48 := by
          rcases hh with hh | hh
          · match l', hdl with
            | x :: r, _ => simpa using hh
          · omega
        have h1 := ih l' a hdl ha (.inl hh')
        have hpos : 1 ≤ a := by
          rcases Nat.eq_zero_or_pos a with h0 | h0
          · subst h0
            rw [Lib.decDigits, dif_pos (by decide)] at h1
            exact absurd (by rw [← h1]; rfl) hh'
          · exact h0
        subst h
        rw [Lib.decDigits, dif_neg (by omega)]
        have e1 : (a * 10 + (c.toNat - 48)) / 10 = a := by omega
        have e2 : (a * 10 + (c.toNat - 48)) % 10 = c.toNat - 48 := by omega
        rw [e1, e2, h1]
        congr 2
        apply UInt8.toNat_inj.1
        rw [dig_nat (by omega)]; omega
      · cases h
theorem val_dd : ∀ (u : Nat), valD 0 (Lib.decDigits u) = some u := by
  intro u
  induction u using Nat.strongRecOn with
  | _ u ih =>
    by_cases h : u < 10
    · rw [Lib.decDigits, dif_pos h]
      simp only [valD, dig_nat h]
      rw [if_pos (by omega)]
      congr 1; omega
    · rw [Lib.decDigits, dif_neg h, valD_snoc, ih (u / 10) (by omega), Option.bind_some, dig_nat (show u % 10 < 10 by omega), if_pos (by omega)]
      congr 1; omega
theorem dd_head : ∀ (u : Nat), 1 ≤ u → (Lib.decDigits u).head? ≠ some 48 := by
  intro u
  induction u using Nat.strongRecOn with
  | _ u ih =>
    intro h1
    by_cases h : u < 10
    · rw [Lib.decDigits, dif_pos h]
      simp only [List.head?_cons, ne_eq, Option.some.injEq]
      intro e
      have := congrArg UInt8.toNat e
      rw [dig_nat h] at this
      simp at this; omega
    · rw [Lib.decDigits, dif_neg h]
      have := ih (u / 10) (by omega) (by omega)
      cases hd : Lib.decDigits (u / 10) with
      | nil => exact absurd hd (dd_ne _)
      | cons c r => rw [hd] at this; simpa using this

/-- The reference's number. -/
def rnumT (minus : Bool) (t : List UInt8) : Int × Bool :=
  if t.length < 1 ∨ 19 < t.length ∨ (t.head? = some 48 ∧ (1 < t.length ∨ minus = true)) then (0, false)
  else match valD 0 t with
    | none => (0, false)
    | some n => if minus = true ∧ n ≤ 9223372036854775808 then (-(n : Int), true) else ((n : Int), !minus && decide (n < 9223372036854775808))
def rnumP (s : List UInt8) : Int × Bool := match s with
  | 45 :: c :: r => rnumT true (c :: r)
  | s => rnumT false s
theorem rnumP_minus {s : List UInt8} (h1 : 1 < s.length) (h2 : s.head? = some 45) : rnumP s = rnumT true s.tail := by
  match s, h1, h2 with
  | c :: d :: r, _, h2 =>
    simp only [List.head?_cons, Option.some.injEq] at h2
    subst h2; rfl
theorem rnumP_plus {s : List UInt8} (h : ¬ (1 < s.length ∧ s.head? = some 45)) : rnumP s = rnumT false s := by
  unfold rnumP
  split
  · exact absurd ⟨by simp, rfl⟩ h
  · rfl
theorem ten19 : (10 : Nat) ^ 19 = 10000000000000000000 := by decide
theorem rnumT_ok {minus : Bool} {t : List UInt8} (h : (rnumT minus t).2 = true) : ∃ n : Nat, Lib.decDigits n = t ∧ (rnumT minus t).1 = (if minus then -(n : Int) else (n : Int)) ∧ (if minus then 1 ≤ n ∧ n ≤ 9223372036854775808 else n < 9223372036854775808) := by
  unfold rnumT at h ⊢
  split at h
  · cases h
  · rename_i hc
    rw [if_neg hc]
    cases hv : valD 0 t with
    | none => rw [hv] at h; cases h
    | some n =>
      rw [hv] at h
      have hl : t.length = (t.length - 1) + 1 := by omega
      have hdd := dd_val (t.length - 1) t n hl hv (by
        by_cases hh : t.head? = some 48
        · exact .inr (by
            have : ¬ (1 < t.length ∨ minus = true) := fun e => hc (.inr (.inr ⟨hh, e⟩))
            omega)
        · exact .inl hh)
      refine ⟨n, hdd, ?_⟩
      cases minus with
      | true =>
        simp only [true_and, Bool.not_true, Bool.false_and] at h ⊢
        by_cases hn : n ≤ 9223372036854775808
        · simp only [hn, if_true, and_true, true_and]
          rcases Nat.eq_zero_or_pos n with h0 | h0
          · subst h0
            have e48 : t.head? = some 48 := by rw [← hdd, Lib.decDigits, dif_pos (by decide)]; rfl
            exact absurd (.inr (.inr ⟨e48, .inr rfl⟩)) hc
          · exact h0
        · simp only [hn, if_false] at h
          cases h
      | false =>
        simp only [Bool.false_eq_true, false_and, if_false, Bool.not_false, Bool.true_and, decide_eq_true_eq] at h ⊢
        exact ⟨trivial, h⟩
theorem rnum_num (s : List UInt8) : (rnumP s).2 = (numP s).2 ∧ ((numP s).2 = true → (rnumP s).1 = (numP s).1) := by
  have fwd : (rnumP s).2 = true → numP s = ((rnumP s).1, true) := by
    intro h
    by_cases hm : 1 < s.length ∧ s.head? = some 45
    · rw [rnumP_minus hm.1 hm.2] at h ⊢
      obtain ⟨n, h1, h2, h3⟩ := rnumT_ok h
      simp only [if_true] at h2 h3
      have hs : s = 45 :: s.tail := by
        match s, hm with
        | c :: r, hm => simp only [List.head?_cons, Option.some.injEq] at hm; rw [hm.2]; rfl
      have : Lib.itoa (-(n : Int)) = s := by
        unfold Lib.itoa
        rw [if_pos (by omega), hs]
        have : (-(n : Int)).natAbs = n := by omega
        rw [this, h1]
      rw [h2, ← this, numP_itoa ⟨by omega, by omega⟩]
    · rw [rnumP_plus hm] at h ⊢
      obtain ⟨n, h1, h2, h3⟩ := rnumT_ok h
      simp only [Bool.false_eq_true, if_false] at h2 h3
      have : Lib.itoa (n : Int) = s := by
        unfold Lib.itoa
        rw [if_neg (by omega), Int.toNat_natCast, h1]
      rw [h2, ← this, numP_itoa ⟨by omega, by omega⟩]
  have bwd : (numP s).2 = true → rnumP s = ((numP s).1, true) := by
    intro h
    have hi := numP_i64 s
    have hs := numP_back h
    generalize (numP s).1 = v at hi hs
    obtain ⟨h1, h2⟩ := hi
    have h19 : ∀ u : Nat, u ≤ 9223372036854775808 → (Lib.decDigits u).length ≤ 19 := fun u hu => by
      rw [Lib.decDigits_length]
      exact nDigits_le 18 u (by have := ten19; omega)
    have hpos : ∀ u : Nat, 1 ≤ (Lib.decDigits u).length := fun u => by rw [Lib.decDigits_length]; exact Lib.nDigits_pos u
    subst hs
    unfold Lib.itoa
    split
    · rename_i hv
      have hne := hpos v.natAbs
      rw [rnumP_minus (by simp only [List.length_cons]; omega) rfl, List.tail_cons]
      unfold rnumT
      have hh := dd_head v.natAbs (by omega)
      rw [if_neg (by
        have := h19 v.natAbs (by omega)
        rintro (h | h | h)
        · omega
        · omega
        · exact hh h.1), val_dd]
      simp only [true_and]
      rw [if_pos (by omega)]
      have e : -((v.natAbs : Nat) : Int) = v := by omega
      rw [e]
    · rename_i hv
      have hne := hpos v.toNat
      rw [rnumP_plus (fun h => by
        cases hd : Lib.decDigits v.toNat with
        | nil => exact dd_ne _ hd
        | cons c r =>
          have := dd_dig v.toNat c (by rw [hd]; simp)
          rw [hd] at h
          simp only [List.head?_cons, Option.some.injEq] at h
          rw [h.2] at this
          simp at this)]
      unfold rnumT
      rw [if_neg (by
        have := h19 v.toNat (by omega)
        rintro (h | h | h)
        · omega
        · omega
        · rcases h.2 with h2 | h2
          · rcases Nat.eq_zero_or_pos v.toNat with h0 | h0
            · rw [h0, Lib.decDigits, dif_pos (by decide)] at h2; simp at h2
            · exact dd_head _ h0 h.1
          · cases h2), val_dd]
      simp only [Bool.false_eq_true, false_and, if_false, Bool.not_false, Bool.true_and]
      have e1 : ((v.toNat : Nat) : Int) = v := Int.toNat_of_nonneg (by omega)
      have e2 : decide (v.toNat < 9223372036854775808) = true := by simp; omega
      rw [e1, e2]
  cases hn : (numP s).2 with
  | true =>
    have := bwd hn
    rw [this]; exact ⟨rfl, fun _ => rfl⟩
  | false =>
    refine ⟨?_, fun h => by cases h⟩
    cases hr : (rnumP s).2 with
    | false => rfl
    | true => have := fwd hr; rw [this] at hn; cases hn
end Go.Fx.Tryz
/- The reference's number of a word, and its value: what is computed. -/
namespace Go.Fx.Tryz
open Go Go.Fx
set_option linter.unusedSimpArgs false
set_option linter.unusedVariables false

theorem un_xor_u {n : Nat} (h : n < 2 ^ 64) : runUn .xor (.int .u64 (n : Int)) = some (.int .u64 ((2 ^ 64 - 1 - n : Nat) : Int)) := by
  have e : ibits .xor .u64 IntKind.u64.max (n : Int) = some ((2 ^ 64 - 1 - n : Nat) : Int) := by
    have hx : (BitVec.ofInt 64 IntKind.u64.max ^^^ BitVec.ofInt 64 (n : Int)).toNat = 2 ^ 64 - 1 - n := by
      have h1 : BitVec.ofInt 64 IntKind.u64.max = BitVec.allOnes 64 := by decide
      have h2 : BitVec.ofInt 64 (n : Int) = BitVec.ofNat 64 n := by simp
      rw [h1, h2, BitVec.allOnes_xor, BitVec.toNat_not, BitVec.toNat_ofNat, Nat.mod_eq_of_lt h]
    show some (IntKind.u64.wrap ((BitVec.ofInt 64 IntKind.u64.max ^^^ BitVec.ofInt 64 (n : Int)).toNat : Int)) = _
    rw [hx, wrapU64 (by omega) (by omega)]
  show (ibits .xor .u64 IntKind.u64.max (n : Int)).map (Value.int .u64) = _
  rw [e]; rfl
theorem conv_neg {n : Nat} (h1 : 1 ≤ n) (h : n ≤ 9223372036854775808) : runConv .i64 (.int .u64 ((2 ^ 64 - n : Nat) : Int)) = some (.int .i64 (-(n : Int))) := by
  simp only [runConv]
  congr 2
  have h4 : ((2 ^ 64 - n : Nat) : Int) % 2 ^ IntKind.i64.bits = 18446744073709551616 - (n : Int) := by
    have : ((2 ^ 64 - n : Nat) : Int) = 18446744073709551616 - (n : Int) := by omega
    rw [this]
    exact Int.emod_eq_of_lt (by omega) (by show _ < (2 : Int) ^ 64; omega)
  have h5 : (2 : Int) ^ (IntKind.i64.bits - 1) = 9223372036854775808 := by decide
  have h6 : (2 : Int) ^ IntKind.i64.bits = 18446744073709551616 := by decide
  unfold IntKind.wrap
  simp only [h4, h5, h6]
  rw [if_pos (by simp [IntKind.signed]; omega)]
  omega

/-- An answer of which the number counts only where it is one. -/
def NumR (o : Int × Bool) (r : Value) : Prop := ∃ x : Int, r = .tuple #[.int .i64 x, .bool o.2] ∧ (o.2 = true → x = o.1)

theorem rnum_end (minus : Bool) {n : Nat} (hn : n < 2 ^ 64) (h0 : minus = true → 1 ≤ n ∨ 9223372036854775808 < n) (m : Mem) : ∃ r, P45_2 (.bool minus) (.int .u64 (n : Int)) m = some (r, m) ∧
    NumR (if minus = true ∧ n ≤ 9223372036854775808 then (-(n : Int), true) else ((n : Int), !minus && decide (n < 9223372036854775808))) r := by
  rw [P45_2_eq]
  cases minus with
  | true =>
    by_cases h : n ≤ 9223372036854775808
    · have hle : (n : Int) ≤ 9223372036854775808 := by omega
      have hn1 : 1 ≤ n := by rcases h0 rfl with h | h <;> omega
      have e1 : arith .add (.int .u64 ((2 ^ 64 - 1 - n : Nat) : Int)) (.int .u64 1) = some (.int .u64 ((2 ^ 64 - n : Nat) : Int)) := by
        rw [ar_add, wrapU64 (by omega) (by omega)]; congr 2; omega
      simp -implicitDefEqProofs only [st0, newVal, reduceIte, hle, un_xor_u hn, e1, conv_neg hn1 h]
      exact ⟨_, rfl, -(n : Int), by simp [h], by simp [h]⟩
    · have hle : ¬ ((n : Int) ≤ 9223372036854775808) := by omega
      obtain ⟨y, hy⟩ : ∃ y, runConv .i64 (.int .u64 (n : Int)) = some (.int .i64 y) := ⟨_, rfl⟩
      simp -implicitDefEqProofs only [st0, newVal, reduceIte, hle, hy]
      exact ⟨_, rfl, y, by simp [h], by simp [h]⟩
  | false =>
    obtain ⟨y, hy⟩ : ∃ y, runConv .i64 (.int .u64 (n : Int)) = some (.int .i64 y) := ⟨_, rfl⟩
    simp -implicitDefEqProofs only [st0, newVal, reduceIte, hy]
    refine ⟨_, rfl, y, ?_, fun h => ?_⟩
    · have : decide ((n : Int) < 9223372036854775808) = decide (n < 9223372036854775808) := decide_eq_decide.2 (by omega)
      simp [this]
    · have hl : n < 9223372036854775808 := by simpa using h
      rw [conv_i64 .u64 (by omega) (by omega)] at hy
      simp only [Option.some.injEq, Value.int.injEq, true_and] at hy
      simp [← hy]

theorem pow10_step (i : Nat) : 10 ^ (i + 1) = 10 * 10 ^ i := by rw [Nat.pow_succ]; omega
theorem rnum_loopD {t : List UInt8} {minus : Bool} (ht : t.length ≤ 19) (m : Mem) (h0 : minus = true → t.head? ≠ some 48) (hne : t ≠ []) : ∀ (d i n : Nat), i + d = t.length → n < 10 ^ i → (1 ≤ i → minus = true → 1 ≤ n) →
    ∃ r, P45_1 (str t) (.bool minus) (.int .u64 (n : Int)) (.int .i64 (i : Int)) m = some (r, m) ∧ NumR (match valD n (t.drop i) with
      | none => (0, false)
      | some n => if minus = true ∧ n ≤ 9223372036854775808 then (-(n : Int), true) else ((n : Int), !minus && decide (n < 9223372036854775808))) r := by
  have p19 : ∀ i, i ≤ 19 → 10 ^ i ≤ 10000000000000000000 := fun i hi => by
    have := Nat.pow_le_pow_right (n := 10) (by decide) hi
    rw [ten19] at this; exact this
  intro d
  induction d with
  | zero =>
    intro i n hd hn hp
    obtain rfl : i = t.length := by omega
    have hn64 : n < 2 ^ 64 := by have := p19 t.length ht; omega
    rw [P45_1_eq]
    simp -implicitDefEqProofs only [st0, newVal, reduceIte, len_str, Int.lt_irrefl]
    simp only [List.drop_length, valD]
    exact rnum_end minus hn64 (fun hm => .inl (hp (List.length_pos_iff.2 hne) hm)) m
  | succ d ih =>
    intro i n hd hn hp
    have hi : i < t.length := by omega
    have hlt : (i : Int) < (t.length : Int) := by omega
    have hx := idx_str (l := t) (i := i) (List.getElem?_eq_getElem hi)
    have hdrop : t.drop i = t[i] :: t.drop (i + 1) := List.drop_eq_getElem_cons hi
    have hhead : i = 0 → t.head? = some t[i] := fun e => by subst e; cases t with
      | nil => simp at hi
      | cons c r => rfl
    rw [hdrop]
    generalize t[i] = c at hx hhead
    have hc : c.toNat < 256 := c.toNat_lt
    have h10 := p19 i (by omega)
    rw [P45_1_eq]
    by_cases h1 : c.toNat < 48
    · have h1' : (c.toNat : Int) < 48 := by omega
      have hv : valD n (c :: t.drop (i + 1)) = none := by rw [valD, if_neg (by omega)]
      rw [hv]
      simp -implicitDefEqProofs only [st0, newVal, reduceIte, len_str, hlt, hx, h1']
      exact ⟨_, rfl, 0, rfl, fun h => by cases h⟩
    · have h1' : ¬ ((c.toNat : Int) < 48) := by omega
      by_cases h2 : 57 < c.toNat
      · have h2' : (57 : Int) < (c.toNat : Int) := by omega
        have hv : valD n (c :: t.drop (i + 1)) = none := by rw [valD, if_neg (by omega)]
        rw [hv]
        simp -implicitDefEqProofs only [st0, newVal, reduceIte, len_str, hlt, hx, h1', h2']
        exact ⟨_, rfl, 0, rfl, fun h => by cases h⟩
      · have h2' : ¬ ((57 : Int) < (c.toNat : Int)) := by omega
        have hv : valD n (c :: t.drop (i + 1)) = valD (n * 10 + (c.toNat - 48)) (t.drop (i + 1)) := by rw [valD, if_pos (by omega)]
        have hps := pow10_step i
        have h11 := p19 (i + 1) (by omega)
        have h12 : 10 * n + 10 ≤ 10000000000000000000 := by omega
        have e1 : arith .mul (.int .u64 10) (.int .u64 (n : Int)) = some (.int .u64 ((10 * n : Nat) : Int)) := by rw [ar_mul, wrapU64 (by omega) (by omega)]; congr 2
        have e2 : arith .sub (.int .u8 (c.toNat : Int)) (.int .u8 48) = some (.int .u8 ((c.toNat - 48 : Nat) : Int)) := by rw [ar_sub, wrapU8 (by omega) (by omega)]; congr 2; omega
        have e3 := conv_u64 (a := ((c.toNat - 48 : Nat) : Int)) .u8 (by omega) (by omega)
        have e4 : arith .add (.int .u64 ((10 * n : Nat) : Int)) (.int .u64 ((c.toNat - 48 : Nat) : Int)) = some (.int .u64 ((n * 10 + (c.toNat - 48) : Nat) : Int)) := by rw [ar_add, wrapU64 (by omega) (by omega)]; congr 2; omega
        rw [hv]
        simp -implicitDefEqProofs only [st0, newVal, reduceIte, len_str, hlt, hx, h1', h2', e1, e2, e3, e4, i64_succ (show i < 2 ^ 62 by omega)]
        refine ih (i + 1) (n * 10 + (c.toNat - 48)) (by omega) (by omega) (fun _ hm => ?_)
        rcases Nat.eq_zero_or_pos i with hz | hz
        · have hcz : c ≠ 48 := fun e => h0 hm (by rw [hhead hz, e])
          have : c.toNat ≠ 48 := fun e => hcz (UInt8.toNat_inj.1 (by rw [e]; rfl))
          omega
        · have := hp hz hm; omega

theorem rnumT_walk (minus : Bool) (t : List UInt8) (ht : t.length ≤ 2 ^ 40) (m : Mem) : ∃ r, P45_0 (str t) (.bool minus) m = some (r, m) ∧ NumR (rnumT minus t) r := by
  rw [P45_0_eq]
  unfold rnumT
  by_cases h1 : t.length < 1
  · have h1' : (t.length : Int) < 1 := by omega
    rw [if_pos (.inl h1)]
    simp -implicitDefEqProofs only [st0, newVal, reduceIte, len_str, h1']
    exact ⟨_, rfl, 0, rfl, fun h => by cases h⟩
  · have h1' : ¬ ((t.length : Int) < 1) := by omega
    by_cases h2 : 19 < t.length
    · have h2' : (19 : Int) < (t.length : Int) := by omega
      rw [if_pos (.inr (.inl h2))]
      simp -implicitDefEqProofs only [st0, newVal, reduceIte, len_str, h1', h2']
      exact ⟨_, rfl, 0, rfl, fun h => by cases h⟩
    · have h2' : ¬ ((19 : Int) < (t.length : Int)) := by omega
      match t, h1 with
      | c :: r, h1 =>
        have hx : runIndexStr (str (c :: r)) (.int .i64 0) = some (.int .u8 (c.toNat : Int)) := idx_str (l := c :: r) (i := 0) rfl
        by_cases h3 : c = 48
        · have h3' : ((c.toNat : Int) = 48) = True := by rw [h3]; simp
          by_cases h4 : 1 < (c :: r).length
          · have h4' : (1 : Int) < ((c :: r).length : Int) := by omega
            rw [if_pos (.inr (.inr ⟨by rw [h3]; rfl, .inl h4⟩))]
            simp -implicitDefEqProofs only [st0, newVal, reduceIte, len_str, h1', h2', hx, h3', h4']
            exact ⟨_, rfl, 0, rfl, fun h => by cases h⟩
          · have h4' : ¬ ((1 : Int) < ((c :: r).length : Int)) := by omega
            cases minus with
            | true =>
              rw [if_pos (.inr (.inr ⟨by rw [h3]; rfl, .inr rfl⟩))]
              simp -implicitDefEqProofs only [st0, newVal, reduceIte, len_str, h1', h2', hx, h3', h4']
              exact ⟨_, rfl, 0, rfl, fun h => by cases h⟩
            | false =>
              rw [if_neg (by rintro (h | h | h) <;> first | exact h1 h | exact h2 h | (rcases h.2 with h | h <;> first | exact h4 h | cases h))]
              simp -implicitDefEqProofs only [st0, newVal, reduceIte, len_str, h1', h2', hx, h3', h4']
              exact rnum_loopD (minus := false) (by omega) m (fun h => by cases h) (by simp) (c :: r).length 0 0 (by omega) (by simp) (fun h => by omega)
        · have h3' : ((c.toNat : Int) = 48) = False := by
            simp only [eq_iff_iff, iff_false]
            intro e
            exact h3 (UInt8.toNat_inj.1 (by rw [show (48 : UInt8).toNat = 48 from rfl]; omega))
          rw [if_neg (by
            rintro (h | h | h)
            · exact h1 h
            · exact h2 h
            · simp only [List.head?_cons, Option.some.injEq] at h; exact h3 h.1)]
          simp -implicitDefEqProofs only [st0, newVal, reduceIte, len_str, h1', h2', hx, h3']
          exact rnum_loopD (minus := minus) (by omega) m (fun _ => by simpa using h3) (by simp) (c :: r).length 0 0 (by omega) (by simp) (fun h => by omega)

theorem rnumber_ok {s : List UInt8} (hs : s.length ≤ 2 ^ 40) (m : Mem) : ∃ r, Call S1 tab 45 [str s] m = some (r, m) ∧ NumR (rnumP s) r := by
  rw [C45]
  by_cases h1 : 1 < s.length
  · have h1' : (1 : Int) < (s.length : Int) := by omega
    match s, h1, hs, h1' with
    | c :: r, h1, hs, h1' =>
      have hx : runIndexStr (str (c :: r)) (.int .i64 0) = some (.int .u8 (c.toNat : Int)) := idx_str (l := c :: r) (i := 0) rfl
      by_cases h2 : c = 45
      · have h2' : ((c.toNat : Int) = 45) = True := by rw [h2]; simp
        have e1 : runSliceStr (str (c :: r)) (some (.int .i64 1)) none = some (str r) := slice_str_from (l := c :: r) (a := 1) (by simp) .i64
        rw [rnumP_minus h1 (by rw [h2]; rfl), List.tail_cons]
        simp -implicitDefEqProofs only [st0, newVal, reduceIte, len_str, h1', hx, h2', e1]
        exact rnumT_walk true r (by simp only [List.length_cons] at hs; omega) m
      · have h2' : ((c.toNat : Int) = 45) = False := by
          simp only [eq_iff_iff, iff_false]
          intro e
          exact h2 (UInt8.toNat_inj.1 (by rw [show (45 : UInt8).toNat = 45 from rfl]; omega))
        rw [rnumP_plus (fun h => h2 (by simpa using h.2))]
        simp -implicitDefEqProofs only [st0, newVal, reduceIte, len_str, h1', hx, h2']
        exact rnumT_walk false (c :: r) hs m
  · have h1' : ¬ ((1 : Int) < (s.length : Int)) := by omega
    rw [rnumP_plus (fun h => h1 h.1)]
    simp -implicitDefEqProofs only [st0, newVal, reduceIte, len_str, h1']
    exact rnumT_walk false s hs m

/- a digit -/
theorem nib_loop (c : UInt8) : ∀ (d n : Nat) (m : Mem), n + d = 16 → (∀ j, j < n → hexd j ≠ c) → W (P67_0 (.int .u8 (c.toNat : Int)) (.int .i64 (n : Int)) m) fun r m' => r = .int .i64 (hexi c) ∧ Upd [] m m' := by
  intro d
  induction d with
  | zero =>
    intro n m hd hj
    obtain rfl : n = 16 := by omega
    have hb := hexi_bounds c
    have hneg : hexi c = -1 := by
      rcases Int.lt_or_le (hexi c) 0 with h | h
      · omega
      · exact absurd (hexi_of h) (hj _ (by omega))
    rw [P67_0_eq]
    simp -implicitDefEqProofs only [st0, newVal, reduceIte, show ¬ (((16 : Nat) : Int) < 16) by decide]
    exact ⟨by rw [hneg], Upd.refl _ _⟩
  | succ d ih =>
    intro n m hd hj
    have hlt : (n : Int) < 16 := by omega
    have hub : Upd [] m (m.bump 6) := ⟨by simp, fun b _ _ => rfl⟩
    have hT : TAp encB 5 ((m.bump 6).put (m.next + 3) ⟨.cells (encB.flat [c]) 5, false, none⟩) (.slice (some ⟨m.next + 3, 0, none⟩) 1 1) [c] := .inr ⟨m.next + 3, 1, [], none, rfl, by show m.next + 3 < m.next + 6; omega, by rw [Mem.get_put_self]; rfl, .inl rfl, rfl, by simp⟩
    have hu : Upd [] m ((m.bump 6).put (m.next + 3) ⟨.cells (encB.flat [c]) 5, false, none⟩) := hub.put' _ (.inr (by omega))
    have b2 := b2s_ok hT.tsl
    rw [P67_0_eq]
    simp -implicitDefEqProofs only [st0, newVal, reduceIte, hlt, digit_ok (show n < 16 by omega), afill_b, b2, eql_str]
    refine W_chk.2 ⟨?_, ?_⟩
    · simp only [List.all_cons, List.all_nil, Bool.and_true]
      exact okOne rfl b2
    · by_cases h : hexd n = c
      · have h' : ([hexd n] = [c]) = True := by simp [h]
        simp -implicitDefEqProofs only [st0, newVal, reduceIte, h']
        refine ⟨?_, hu⟩
        rw [← h, (hexd_of (show n < 16 by omega)).2.2]
      · have h' : ([hexd n] = [c]) = False := by simp [h]
        simp -implicitDefEqProofs only [st0, newVal, reduceIte, h', i64_succ (show n < 2 ^ 62 by omega)]
        exact (ih (n + 1) _ (by omega) (fun j hj' => by
          rcases Nat.lt_or_ge j n with h1 | h1
          · exact hj j h1
          · obtain rfl : j = n := by omega
            exact h)).mono fun r m' ⟨q1, q2⟩ => ⟨q1, hu.then0 q2⟩
theorem nibble_ok (c : UInt8) (m : Mem) : W (Call S1 tab 67 [.int .u8 (c.toNat : Int)] m) fun r m' => r = .int .i64 (hexi c) ∧ Upd [] m m' := by
  rw [C67]
  exact nib_loop c 16 0 m rfl (fun j hj => by omega)
end Go.Fx.Tryz
/- The reference's value of a word. -/
namespace Go.Fx.Tryz
open Go Go.Fx
set_option linter.unusedSimpArgs false
set_option linter.unusedVariables false

theorem unhex_parity : ∀ (d : Nat) (h : List UInt8) (p : List UInt8 × List UInt8), h.length ≤ d → unhexP h = some p → (p.2 = [] ↔ h.length % 2 = 0) := by
  intro d
  induction d with
  | zero => intro h p hd e; obtain rfl : h = [] := List.length_eq_zero_iff.1 (by omega); simp [unhexP] at e; subst e; simp
  | succ d ih =>
    intro h p hd e
    match h, hd, e with
    | [], _, e => simp [unhexP] at e; subst e; simp
    | [a], _, e => simp [unhexP] at e; subst e; simp
    | a :: b :: r, hd, e =>
      rw [unhexP] at e
      split at e
      · cases e
      · simp only [Option.map_eq_some_iff] at e
        obtain ⟨q, hq, rfl⟩ := e
        have := ih r q (by simp only [List.length_cons] at hd; omega) hq
        simp only [List.length_cons]
        rw [this]; omega
theorem nib2_ok {a b : Int} (ha : 0 ≤ a) (ha' : a < 16) (hb : 0 ≤ b) (hb' : b < 16) : ∃ x y, arith .mul (.int .i64 16) (.int .i64 a) = some x ∧ arith .add x (.int .i64 b) = some y ∧ runConv .u8 y = some (.int .u8 ((UInt8.ofNat (16 * a.toNat + b.toNat)).toNat : Int)) := by
  obtain ⟨a, rfl⟩ := Int.eq_ofNat_of_zero_le ha
  obtain ⟨b, rfl⟩ := Int.eq_ofNat_of_zero_le hb
  refine ⟨.int .i64 ((16 * a : Nat) : Int), .int .i64 ((16 * a + b : Nat) : Int), ?_, ?_, ?_⟩
  · rw [ar_mul, wrap64 (by omega) (by omega)]; congr 2
  · rw [i64_addN (by omega)]
  · simp only [runConv, IntKind.wrap, Int.toNat_natCast]
    simp [IntKind.signed, IntKind.bits]

/-- What the reference's Unvalue hands back. -/
def ValR (o : Va × Bool) (r : Value) : Prop := ∃ v : Va, r = .tuple #[.agg (encVa.cells v).toArray, .bool o.2] ∧ (o.2 = true → v = o.1)

theorem runhex_loop {s : List UInt8} {vp : Nat} (hs : s.length ≤ 2 ^ 39) : ∀ (d i : Nat) (m : Mem) (v : Value) (l : List UInt8) (c0 : List Value), s.length - i ≤ d → i ≤ s.length → (s.length - i) % 2 = 0 → m.get vp = some ⟨.cells c0 35, false, none⟩ → c0.length = 3 → vp < m.next → vp ∉ blkOf v → TAp encB 5 m v l → l.length ≤ i →
    W (P46_0 (str s) (.pointer (some ⟨vp, 0, none⟩)) v (.int .i64 (i : Int)) m) fun r m' => ValR (match unhexP (s.drop i) with | none => (zeroVa, false) | some p => (⟨2, 0, l ++ p.1⟩, true)) r ∧ Upd (vp :: blkOf v) m m' := by
  have fin : ∀ (i : Nat) (m : Mem) (v : Value) (l : List UInt8) (c0 : List Value), i = s.length → m.get vp = some ⟨.cells c0 35, false, none⟩ → c0.length = 3 → TAp encB 5 m v l →
      W (P46_0 (str s) (.pointer (some ⟨vp, 0, none⟩)) v (.int .i64 (i : Int)) m) fun r m' => ValR (match unhexP (s.drop i) with | none => (zeroVa, false) | some p => (⟨2, 0, l ++ p.1⟩, true)) r ∧ Upd (vp :: blkOf v) m m' := by
    intro i m v l c0 hi hg hc hT
    subst hi
    have ef : afill [.int .i64 0, .int .i64 0, .string ⟨#[]⟩] [(0, 1, .int .i64 2), (2, 1, str l)] = some (encVa.cells ⟨2, 0, l⟩) := by rfl
    rw [P46_0_eq]
    simp -implicitDefEqProofs only [st0, newVal, reduceIte, len_str, Int.lt_irrefl]
    rw [P46_1_eq]
    simp -implicitDefEqProofs only [st0, newVal, reduceIte, b2s_ok hT.tsl, ef]
    refine W.bindO (store_whole (n := 3) hg hc rfl rfl) ?_
    rw [cells_agg]
    refine W.bindO (load_whole (n := 3) (Mem.get_put_self _ _ _) rfl) (W_some.2 ⟨⟨⟨2, 0, l⟩, ?_, ?_⟩, Upd.put _ _ (List.mem_cons_self ..)⟩)
    · rw [List.drop_length]; rfl
    · rw [List.drop_length]; intro _; simp [unhexP]
  intro d
  induction d with
  | zero =>
    intro i m v l c0 hd hi _ hg hc _ _ hT _
    exact fin i m v l c0 (by omega) hg hc hT
  | succ d ih =>
    intro i m v l c0 hd hi hp hg hc hlt hv hT hl
    rcases Nat.lt_or_ge i s.length with hil | hil
    · have hi1 : i + 1 < s.length := by omega
      have hxa := idx_str (l := s) (i := i) (List.getElem?_eq_getElem hil)
      have hxb := idx_str (l := s) (i := i + 1) (List.getElem?_eq_getElem hi1)
      have hdrop : s.drop i = s[i] :: s[i + 1] :: s.drop (i + 2) := by rw [List.drop_eq_getElem_cons hil, List.drop_eq_getElem_cons hi1]
      rw [hdrop]
      generalize s[i] = a at hxa
      generalize s[i + 1] = b at hxb
      have ha := hexi_bounds a
      have hb := hexi_bounds b
      have hlti : (i : Int) < (s.length : Int) := by omega
      have e1 := i64_succ (show i < 2 ^ 62 by omega)
      rw [P46_0_eq]
      simp -implicitDefEqProofs only [st0, newVal, reduceIte, len_str, hlti, hxa]
      refine W.bind (nibble_ok a m) fun r m1 ⟨hr, hu1⟩ => ?_
      subst hr
      simp -implicitDefEqProofs only [st0, newVal, reduceIte, e1, hxb]
      refine W.bind (nibble_ok b m1) fun r m2 ⟨hr, hu2⟩ => ?_
      subst hr
      have hu := hu1.then0 hu2
      have hg2 := (hu.same vp hlt (by simp)).trans hg
      have bad : W ((runStore 3 (.pointer (some ⟨vp, 0, none⟩)) (Value.agg (encVa.cells zeroVa).toArray) m2).bind fun m14 => (runLoadN 3 (.pointer (some ⟨vp, 0, none⟩)) m14).bind fun v15 => some (.tuple #[v15, (.bool false)], m14)) fun r m' => ValR (zeroVa, false) r ∧ Upd (vp :: blkOf v) m m' := by
        refine W.bindO (store_whole (n := 3) hg2 hc rfl rfl) ?_
        rw [cells_agg]
        exact W.bindO (load_whole (n := 3) (Mem.get_put_self _ _ _) rfl) (W_some.2 ⟨⟨zeroVa, rfl, fun h => by cases h⟩, hu.nil'.put' _ (.inl (List.mem_cons_self ..))⟩)
      by_cases hna : hexi a < 0
      · rw [unhexP, if_pos (.inl hna)]
        simp -implicitDefEqProofs only [st0, newVal, reduceIte, hna, afill_v]
        exact bad
      · by_cases hnb : hexi b < 0
        · rw [unhexP, if_pos (.inr hnb)]
          simp -implicitDefEqProofs only [st0, newVal, reduceIte, hna, hnb, afill_v]
          exact bad
        · obtain ⟨x, y, n1, n2, n3⟩ := nib2_ok (a := hexi a) (b := hexi b) (by omega) ha.2 (by omega) hb.2
          have e2 : arith .add (.int .i64 (i : Int)) (.int .i64 2) = some (.int .i64 ((i + 2 : Nat) : Int)) := by rw [i64_add (by omega) (by omega)]; congr 2
          simp -implicitDefEqProofs only [st0, newVal, reduceIte, hna, hnb, n1, n2, n3, afill_b]
          refine app_new (E := encB) [UInt8.ofNat (16 * (hexi a).toNat + (hexi b).toNat)] (by decide) (hT.upd0 hu) (by simp only [List.length_cons, List.length_nil]; omega) fun v' m' g1 g2 g3 => ?_
          simp -implicitDefEqProofs only [st0, newVal, reduceIte, e2]
          have hnx := hu.next
          have hv' : vp ∉ blkOf v' := fun hm => by
            rcases g3 _ hm with q | q
            · exact hv q
            · omega
          have hug : Upd (vp :: blkOf v) m m' := hu.nil'.trans (g2.mono (fun b hb _ => List.mem_cons_of_mem _ hb))
          refine (ih (i + 2) m' v' _ c0 (by omega) (by omega) (by omega) ((g2.same vp (by omega) hv).trans hg2) hc (by have := g2.next; omega) hv' g1 (by simp only [List.length_append, List.length_cons, List.length_nil]; omega)).mono fun r m3 ⟨q1, q2⟩ => ⟨?_, hug.then' q2 (fun b hb => ?_)⟩
          · rw [unhexP, if_neg (by omega)]
            cases hun : unhexP (s.drop (i + 2)) with
            | none => rw [hun] at q1; exact q1
            | some p => rw [hun] at q1; simpa using q1
          · rcases List.mem_cons.1 hb with rfl | hb
            · exact .inl (List.mem_cons_self ..)
            · rcases g3 b hb with q | q
              · exact .inl (List.mem_cons_of_mem _ q)
              · exact .inr (by omega)
    · exact fin i m v l c0 (by omega) hg hc hT

theorem runvalue_ok {s : List UInt8} (hs : s.length ≤ 2 ^ 39) (m : Mem) : W (Call S1 tab 46 [str s] m) fun r m' => ValR (valueP s) r ∧ Upd [] m m' := by
  rw [C46]
  refine W_nw.2 ?_
  have hg1 := Mem.get_add_self m ⟨.cells [.int .i64 0, .int .i64 0, .string ⟨#[]⟩] 35, false, none⟩
  have hu1 : Upd [] m (m.add ⟨.cells [.int .i64 0, .int .i64 0, .string ⟨#[]⟩] 35, false, none⟩) := Upd.add _ _ _
  have hn1 : (m.add ⟨.cells [.int .i64 0, .int .i64 0, .string ⟨#[]⟩] 35, false, none⟩).next = m.next + 1 := rfl
  generalize m.add ⟨.cells [.int .i64 0, .int .i64 0, .string ⟨#[]⟩] 35, false, none⟩ = m1 at hg1 hu1 hn1
  have hq : arith .eql (str s) (.string ⟨#[]⟩) = some (.bool (decide (s = []))) := eql_str s []
  obtain ⟨rn, hrn, x, hx1, hx2⟩ := rnumber_ok (s := s) (by omega) m1
  subst hx1
  have num : (cutP s).2 = false → W ((runStore 3 (.pointer (some ⟨m.next, 0, none⟩)) (Value.agg (encVa.cells ⟨1, x, []⟩).toArray) m1).bind fun m14 => (runLoadN 3 (.pointer (some ⟨m.next, 0, none⟩)) m14).bind fun v15 => some (.tuple #[v15, (.bool (rnumP s).2)], m14)) fun r m' => ValR (valueP s) r ∧ Upd [] m m' := by
    intro hc
    obtain ⟨r1, r2⟩ := rnum_num s
    have hv : valueP s = (⟨1, (numP s).1, []⟩, (numP s).2) := by unfold valueP; rw [hc, if_neg (by decide)]
    refine W.bindO (store_whole (n := 3) hg1 rfl rfl rfl) ?_
    rw [cells_agg]
    refine W.bindO (load_whole (n := 3) (Mem.get_put_self _ _ _) rfl) (W_some.2 ⟨⟨⟨1, x, []⟩, by rw [hv, r1], fun h => ?_⟩, hu1.put' _ (.inr (Nat.le_refl _))⟩)
    rw [hv] at h ⊢
    simp only at h
    rw [hx2 (by rw [r1]; exact h), r2 h]
  have f0 : runExtract 0 (.tuple #[.int .i64 x, .bool (rnumP s).2]) = some (.int .i64 x) := rfl
  have f1 : runExtract 1 (.tuple #[.int .i64 x, .bool (rnumP s).2]) = some (.bool (rnumP s).2) := rfl
  have ef : afill [.int .i64 0, .int .i64 0, .string ⟨#[]⟩] [(0, 1, .int .i64 1), (1, 1, .int .i64 x)] = some (encVa.cells ⟨1, x, []⟩) := by rfl
  match s, hs, hq, hrn, hx2, num, f0, f1 with
  | [], hs, hq, hrn, hx2, num, f0, f1 =>
    simp -implicitDefEqProofs only [st0, newVal, reduceIte, hq, hrn, f0, f1, ef]
    exact num rfl
  | c :: r, hs, hq, hrn, hx2, num, f0, f1 =>
    have hq' : arith .eql (str (c :: r)) (.string ⟨#[]⟩) = some (.bool false) := by rw [hq]; rfl
    have hx : runIndexStr (str (c :: r)) (.int .i64 0) = some (.int .u8 (c.toNat : Int)) := idx_str (l := c :: r) (i := 0) rfl
    by_cases hc : c = 39
    · have hc' : ((c.toNat : Int) = 39) = True := by rw [hc]; simp
      have hcut : cutP (c :: r) = (r, true) := by rw [cutP_cons, if_pos hc]
      have hv : valueP (c :: r) = (match unhexP r with | none => (zeroVa, false) | some (b, l) => (⟨2, 0, b⟩, decide (l = []))) := by
        unfold valueP; rw [hcut, if_pos rfl]
        cases unhexP r with
        | none => rfl
        | some p => rfl
      have erem : arith .rem (.int .i64 ((c :: r).length : Int)) (.int .i64 2) = some (.int .i64 (((c :: r).length % 2 : Nat) : Int)) := by
        have e : ((c :: r).length : Int).tmod 2 = (((c :: r).length % 2 : Nat) : Int) := by rw [Int.tmod_eq_emod_of_nonneg (by omega)]; omega
        show iop .rem .i64 ((c :: r).length : Int) 2 = _
        simp only [iop]
        rw [if_neg (by decide), e]
      by_cases hev : (c :: r).length % 2 = 0
      · have hev' : ((((c :: r).length % 2 : Nat) : Int) = 0) = True := by rw [hev]; simp
        have hfalse : (valueP (c :: r)).2 = false := by
          rw [hv]
          cases hun : unhexP r with
          | none => rfl
          | some p =>
            have := unhex_parity _ r p (Nat.le_refl _) hun
            simp only [List.length_cons] at hev
            have hp : ¬ p.2 = [] := fun e => by have := this.1 e; omega
            simpa using hp
        simp -implicitDefEqProofs only [st0, newVal, reduceIte, hq', hx, hc', len_str, erem, hev', afill_v]
        refine W.bindO (store_whole (n := 3) hg1 rfl rfl rfl) ?_
        rw [cells_agg]
        exact W.bindO (load_whole (n := 3) (Mem.get_put_self _ _ _) rfl) (W_some.2 ⟨⟨zeroVa, by rw [hfalse], fun h => by rw [hfalse] at h; cases h⟩, hu1.put' _ (.inr (Nat.le_refl _))⟩)
      · have hev' : ((((c :: r).length % 2 : Nat) : Int) = 0) = False := by simp only [eq_iff_iff, iff_false]; omega
        simp -implicitDefEqProofs only [st0, newVal, reduceIte, hq', hx, hc', len_str, erem, hev']
        refine (runhex_loop (s := c :: r) (vp := m.next) hs (c :: r).length 1 m1 (.slice none 0 0) [] _ (by omega) (by simp) (by simp only [List.length_cons] at hev ⊢; omega) hg1 rfl (by omega) (by simp [blkOf]) (TAp.nil _) (by simp)).mono fun q m2 ⟨q1, q2⟩ => ⟨?_, hu1.then' q2 (fun b hb => by simp [blkOf] at hb; exact .inr (by omega))⟩
        rw [hv]
        have hd : (c :: r).drop 1 = r := rfl
        rw [hd] at q1
        cases hun : unhexP r with
        | none => rw [hun] at q1; exact q1
        | some p =>
          obtain ⟨b, l⟩ := p
          have := unhex_parity _ r (b, l) (Nat.le_refl _) hun
          simp only [List.length_cons] at hev
          have hp : l = [] := this.2 (by omega)
          rw [hun] at q1
          subst hp
          simpa using q1
    · have hc' : ((c.toNat : Int) = 39) = False := by
        simp only [eq_iff_iff, iff_false]
        intro e
        exact hc (UInt8.toNat_inj.1 (by rw [show (39 : UInt8).toNat = 39 from rfl]; omega))
      simp -implicitDefEqProofs only [st0, newVal, reduceIte, hq', hx, hc', hrn, f0, f1, ef]
      exact num (by rw [cutP_cons, if_neg hc])
end Go.Fx.Tryz
/- The reference's instruction of words. -/
namespace Go.Fx.Tryz
open Go Go.Fx
set_option linter.unusedSimpArgs false
set_option linter.unusedVariables false

theorem idxP_le (x : List UInt8) : idxP x ≤ 19 := by
  have h : ∀ (l : List (List UInt8)) (i : Nat), i + l.length ≤ 20 → idxGo x i l ≤ 19 := by
    intro l
    induction l with
    | nil => intro i h; simp [idxGo]
    | cons y r ih =>
      intro i h
      simp only [idxGo]
      simp only [List.length_cons] at h
      split
      · omega
      · exact ih (i + 1) (by omega)
  exact h opNames 0 (by decide)
/-- The operation of a word; 0: there is none. -/
def ropP (w : List UInt8) : Int := if 0 < idxP w then idxP w else 0
theorem opn_rop (w : List UInt8) : opn (ropP w) = opn (idxP w) := by
  unfold ropP
  split
  · rfl
  · rename_i h
    have h1 : opn 0 = (0, false) := by decide
    have h2 : opn (idxP w) = (0, false) := by unfold opn; rw [if_pos (.inl (by omega))]
    rw [h1, h2]
theorem name_iff {w : List UInt8} {k : Nat} (h1 : 1 ≤ k) (h2 : k ≤ 19) : nameP (k : Int) = w ↔ idxP w = (k : Int) := by
  constructor
  · intro h; rw [← h]; exact (name_idx ⟨k, by omega⟩ (by simp; omega)).1
  · intro h
    have ho : (opn (idxP w)).2 = true := by rw [h]; have := (name_idx ⟨k, by omega⟩ (by simp; omega)); unfold opn; rw [if_neg (by omega)]
    rw [← h]; exact idx_name ho

theorem rinst_op {ws : List (List UInt8)} {wv x2 : Value} {w0 : List UInt8} (h0 : ws[0]? = some w0) : ∀ (d k : Nat) (op : Int) (m : Mem), k + d = 20 → 1 ≤ k → op = (if 0 < idxP w0 ∧ idxP w0 < (k : Int) then idxP w0 else 0) → TSl encS m wv ws → (∀ b ∈ blkOf wv, b < m.next) →
    ∀ {Q : Value → Mem → Prop}, (∀ m', Upd [] m m' → W (P27_1 wv x2 (.int .i64 (ropP w0)) m') Q) → W (P27_0 wv x2 (.int .i64 op) (.int .i64 (k : Int)) m) Q := by
  have hlen : ∀ b : Nat, runLenSlice (.slice (some ⟨b, 0, none⟩) 19 19) = some (.int .i64 19) := fun b => rfl
  intro d
  induction d with
  | zero =>
    intro k op m hd h1 hop hT hb Q hK
    obtain rfl : k = 20 := by omega
    have hle := idxP_le w0
    have : op = ropP w0 := by rw [hop]; unfold ropP; by_cases h : 0 < idxP w0 <;> simp [h]; omega
    subst this
    rw [P27_0_eq]
    simp -implicitDefEqProofs only [st0, newVal, reduceIte, rnames_ok, hlen, show ¬ (((20 : Nat) : Int) ≤ 19) by decide]
    exact hK _ (Upd.add _ _ _)
  | succ d ih =>
    intro k op m hd h1 hop hT hb Q hK
    have hle : (k : Int) ≤ 19 := by omega
    rw [P27_0_eq]
    simp -implicitDefEqProofs only [st0, newVal, reduceIte, rnames_ok, hlen, hle]
    have hu1 : Upd [] m (m.add ⟨.cells (encS.flat opNames.tail) 9, false, none⟩) := Upd.add _ _ _
    generalize m.add ⟨.cells (encS.flat opNames.tail) 9, false, none⟩ = m1 at hu1
    refine W.bind (rname_ok (k : Int) ⟨by omega, by omega⟩ m1) fun r m2 ⟨hr, hu2⟩ => ?_
    subst hr
    have hu12 := hu1.then0 hu2
    have hT1 := hT.upd hu1 (fun b hh => ⟨hb b hh, by simp⟩)
    have hT2 := hT.upd hu12 (fun b hh => ⟨hb b hh, by simp⟩)
    obtain ⟨hi0, hw0⟩ := List.getElem?_eq_some_iff.1 h0
    obtain ⟨b, off, p1, p2⟩ := idx_at hT hi0
    rw [hw0] at p2
    have p1 : runIndexS 1 wv (.int .i64 0) = some (.pointer (some ⟨b, off, none⟩)) := p1
    have hs := i64_succ (show k < 2 ^ 62 by omega)
    simp -implicitDefEqProofs only [st0, newVal, reduceIte, p1, p2 _ hT2, eql_str, hs]
    refine chk1 (fun M hM => ?_) (by simp) ?_
    · simp only [List.mem_cons, List.not_mem_nil, or_false] at hM
      rcases hM with rfl | rfl
      · exact p2 _ hT1
      · exact p2 _ hT2
    · by_cases he : nameP (k : Int) = w0
      · have hk := (name_iff h1 (by omega)).1 he
        have he' := eq_true he
        simp -implicitDefEqProofs only [st0, newVal, reduceIte, he']
        refine ih (k + 1) (k : Int) m2 (by omega) (by omega) ?_ hT2 (fun b hh => Nat.lt_of_lt_of_le (hb b hh) hu12.next) (fun m' h' => hK m' (hu12.then0 h'))
        rw [hk, if_pos (by omega)]
      · have hk : ¬ idxP w0 = (k : Int) := fun e => he ((name_iff h1 (by omega)).2 e)
        simp -implicitDefEqProofs only [st0, newVal, reduceIte, he]
        refine ih (k + 1) op m2 (by omega) (by omega) ?_ hT2 (fun b hh => Nat.lt_of_lt_of_le (hb b hh) hu12.next) (fun m' h' => hK m' (hu12.then0 h'))
        rw [hop]
        by_cases hc : 0 < idxP w0 ∧ idxP w0 < (k : Int)
        · rw [if_pos hc, if_pos (by omega)]
        · rw [if_neg hc, if_neg (by omega)]

/-- What the reference's inst hands back. -/
def InstQ (o : Option In) (r : Value) : Prop := ∃ j : In, r = .tuple #[.agg (encIn.cells j).toArray, .bool o.isSome] ∧ ∀ i, o = some i → j = i

theorem rinst_end {i : In} {ok : Bool} {B X : Nat} {c2 : List Value} {m : Mem} (hB : m.get B = some ⟨.cells (encIn.cells i) 37, false, none⟩) (hX : m.get X = some ⟨.cells c2 37, false, none⟩) (hc2 : c2.length = 7) (hBl : B < m.next) (hXl : X < m.next) (hBX : B ≠ X) :
    W (P27_5 (.pointer (some ⟨X, 0, none⟩)) (.bool ok) (.pointer (some ⟨B, 0, none⟩)) m) fun r m' => InstQ (if ok = true then finP i else none) r ∧ Upd [X] m m' := by
  have hl := load_whole (n := 7) hB rfl
  rw [P27_5_eq]
  cases ok with
  | false =>
    simp -implicitDefEqProofs only [st0, newVal, reduceIte, hl, gdq_ft]
    refine W.bindO (store_whole (n := 7) hX hc2 rfl rfl) ?_
    rw [cells_agg]
    refine W_chk.2 ⟨?_, W.bindO (load_whole (n := 7) (Mem.get_put_self _ _ _) rfl) (W_some.2 ⟨⟨i, rfl, fun _ h => by cases h⟩, Upd.put _ _ (by simp)⟩)⟩
    simp only [List.nil_append, List.append_nil, List.all_cons, List.all_nil, Bool.and_true]
    unfold okReq
    simp only [List.all_eq_true, List.mem_range]
    intro k hk
    have hk2 : k = 0 ∨ k = 1 := by omega
    rcases hk2 with rfl | rfl
    · simp only [Nat.add_zero, List.getElem?_cons_zero]
      rw [show (Req.loadN 7 (.pointer (some ⟨B, 0, none⟩))).run m = runLoadN 7 _ m from rfl, hl]; exact veq_refl _
    · show (match (Req.loadN 7 (.pointer (some ⟨B, 0, none⟩))).run m with | some u => _ | none => _) = true
      rw [show (Req.loadN 7 (.pointer (some ⟨B, 0, none⟩))).run m = runLoadN 7 _ m from rfl, hl]; exact veq_refl _
  | true =>
    have hq : gdq (.bool true) true (0, 0) (some (.loadN 7 (.pointer (some ⟨B, 0, none⟩)))) m = some (.agg (encIn.cells i).toArray, [(.loadN 7 (.pointer (some ⟨B, 0, none⟩)), .agg (encIn.cells i).toArray, (0, 0))]) := by
      rw [gdq_tt, rq_loadN, hl]; rfl
    simp -implicitDefEqProofs only [st0, newVal, reduceIte, hl, hq]
    refine W.bind (Q := fun r m' => r = .bool (rightB i) ∧ Upd [] m m') (W.bind (rright_ok i m) fun r m' h => W_some.2 h) fun r m1 ⟨hr, hu⟩ => ?_
    subst hr
    have hX1 := (hu.same X hXl (by simp)).trans hX
    have hB1 := (hu.same B hBl (by simp)).trans hB
    have hl1 := load_whole (n := 7) hB1 rfl
    simp -implicitDefEqProofs only [st0, newVal, reduceIte]
    refine W.bindO (store_whole (n := 7) hX1 hc2 rfl rfl) ?_
    rw [cells_agg]
    refine W_chk.2 ⟨?_, W.bindO (load_whole (n := 7) (Mem.get_put_self _ _ _) rfl) (W_some.2 ⟨⟨i, ?_, fun j hj => ?_⟩, (hu.nil'.put' _ (.inl (by simp)))⟩)⟩
    · simp only [List.nil_append, List.cons_append, List.all_cons, List.all_nil, Bool.and_true, Bool.and_eq_true]
      refine ⟨?_, okOne rfl hl⟩
      unfold okReq
      simp only [List.all_eq_true, List.mem_range]
      intro k hk
      have hk2 : k = 0 ∨ k = 1 := by omega
      rcases hk2 with rfl | rfl
      · show (match (Req.loadN 7 (.pointer (some ⟨B, 0, none⟩))).run m with | some u => _ | none => _) = true
        rw [show (Req.loadN 7 (.pointer (some ⟨B, 0, none⟩))).run m = runLoadN 7 _ m from rfl, hl]; exact veq_refl _
      · show (match (Req.loadN 7 (.pointer (some ⟨B, 0, none⟩))).run m1 with | some u => _ | none => _) = true
        rw [show (Req.loadN 7 (.pointer (some ⟨B, 0, none⟩))).run m1 = runLoadN 7 _ m1 from rfl, hl1]; exact veq_refl _
    · unfold finP
      cases hri : rightB i with
      | true => simp [code_one hri]
      | false =>
        have : ¬ codeErr [i] = 0 := fun e => by rw [right_of e] at hri; cases hri
        simp [this]
    · simp only [if_true, finP] at hj
      split at hj
      · simpa using hj
      · cases hj

theorem encF (l : List Int) : (encInt .i64).flat l = l.map fun x => Value.int .i64 x := by
  simp only [Enc.flat, encInt]
  induction l with
  | nil => rfl
  | cons a l ih => simp at ih ⊢; exact ih
theorem encF_set (l : List Int) (k : Nat) (x : Int) : ((encInt .i64).flat l).set k (.int .i64 x) = (encInt .i64).flat (l.set k x) := by rw [encF, encF, List.map_set]

/-- The operands, one behind the other. -/
theorem rargs_loop {ws : List (List UInt8)} {w0 : List UInt8} {ss : List (List UInt8)} {wv x2 : Value} {op : Int} {n lb X : Nat} (hws : ws = w0 :: ss) (hn3 : n ≤ 3) (hns : n ≤ ss.length) (hsz : ∀ s ∈ ss, s.length ≤ 2 ^ 39) :
    ∀ (d k : Nat) (o : Option In) (vals : List Int) (m : Mem), k + d = n → vals.length = 3 → m.get lb = some ⟨.cells ((encInt .i64).flat vals) 3, false, none⟩ → lb < m.next → (∀ m', Upd [lb] m m' → TSl encS m' wv ws) → (∀ i, o = some i → vals = [i.a, i.b, i.c]) →
    ∀ {Q : Value → Mem → Prop}, (∀ m' vals', Upd [lb] m m' → vals'.length = 3 → m'.get lb = some ⟨.cells ((encInt .i64).flat vals') 3, false, none⟩ → (∀ j, (o.bind fun i => argsGo i k ((ss.take n).drop k)) = some j → vals' = [j.a, j.b, j.c]) →
      W (P27_4 wv x2 (.int .i64 op) (.bool (o.bind fun i => argsGo i k ((ss.take n).drop k)).isSome) (.slice (some ⟨lb, 0, none⟩) 3 3) m') Q) →
    W (P27_3 wv x2 (.int .i64 op) (.int .i64 (n : Int)) (.bool o.isSome) (.slice (some ⟨lb, 0, none⟩) 3 3) (.int .i64 (k : Int)) m) Q := by
  intro d
  induction d with
  | zero =>
    intro k o vals m hk hv hlb hl hT ho Q hK
    obtain rfl : k = n := by omega
    have e : (ss.take k).drop k = [] := List.drop_eq_nil_of_le (by simp; omega)
    have eo : (o.bind fun i => argsGo i k ((ss.take k).drop k)) = o := by rw [e]; cases o <;> simp [argsGo]
    have h1 := hK m vals (Upd.refl _ _) hv hlb (fun j hj => ho j (by rw [eo] at hj; exact hj))
    rw [eo] at h1
    rw [P27_3_eq]
    simp -implicitDefEqProofs only [st0, newVal, reduceIte, Int.lt_irrefl]
    exact h1
  | succ d ih =>
    intro k o vals m hk hv hlb hl hT ho Q hK
    have hlt : (k : Int) < (n : Int) := by omega
    have hks : k < ss.length := by omega
    have hkw : k + 1 < ws.length := by rw [hws]; simp; omega
    have hkt : k < (ss.take n).length := by simp; omega
    have hget : ws[k + 1] = ss[k] := by subst hws; simp
    have hdrop : (ss.take n).drop k = ss[k] :: (ss.take n).drop (k + 1) := by
      rw [List.drop_eq_getElem_cons hkt]; simp
    have hssz := hsz _ (List.getElem_mem hks)
    obtain ⟨p, p1, p2⟩ := idx_s (hT m (Upd.refl _ _)) hkw
    rw [hget] at p2
    rw [hdrop] at hK
    generalize ss[k] = s at p2 hssz hK
    have e1 : arith .add (.int .i64 1) (.int .i64 (k : Int)) = some (.int .i64 ((k + 1 : Nat) : Int)) := by rw [i64_add (by omega) (by omega)]; congr 2; omega
    obtain ⟨rn, hrn, x, hx1, hx2⟩ := rnumber_ok (s := s) (by omega) m
    subst hx1
    obtain ⟨r1, r2⟩ := rnum_num s
    rw [r1] at hrn hx2
    have f0 : runExtract 0 (.tuple #[.int .i64 x, .bool (numP s).2]) = some (.int .i64 x) := rfl
    have f1 : runExtract 1 (.tuple #[.int .i64 x, .bool (numP s).2]) = some (.bool (numP s).2) := rfl
    have hi : runIndexS 1 (.slice (some ⟨lb, 0, none⟩) 3 3) (.int .i64 (k : Int)) = some (.pointer (some ⟨lb, 0 + k * 1, none⟩)) := by
      simp only [runIndexS]
      rw [if_pos (by omega), Int.toNat_natCast]
    have hfl : ((encInt .i64).flat vals).length = 3 := by rw [encF, List.length_map, hv]
    have hst := store_at hlb (o := 0 + k * 1) (v := .int .i64 x) (by omega) rfl rfl
    rw [encF_set] at hst
    have hu1 : Upd [lb] m (m.put lb ⟨.cells ((encInt .i64).flat (vals.set (0 + k * 1) x)) 3, false, none⟩) := Upd.put _ _ (by simp)
    -- what the mark becomes
    have go : ∀ (o' : Option In), (∀ i, o' = some i → vals.set (0 + k * 1) x = [i.a, i.b, i.c]) → (o'.bind fun i => argsGo i (k + 1) ((ss.take n).drop (k + 1))) = (o.bind fun i => argsGo i k (s :: (ss.take n).drop (k + 1))) →
        W (P27_3 wv x2 (.int .i64 op) (.int .i64 (n : Int)) (.bool o'.isSome) (.slice (some ⟨lb, 0, none⟩) 3 3) (.int .i64 ((k + 1 : Nat) : Int)) (m.put lb ⟨.cells ((encInt .i64).flat (vals.set (0 + k * 1) x)) 3, false, none⟩)) Q := by
      intro o' ho' heq
      refine ih (k + 1) o' (vals.set (0 + k * 1) x) _ (by omega) (by simp [hv]) (Mem.get_put_self ..) hl (fun m' h' => hT m' (hu1.trans h')) ho' fun m' vals' h1 h2 h3 h4 => ?_
      rw [heq] at h4 ⊢
      exact hK m' vals' (hu1.trans h1) h2 h3 h4
    rw [P27_3_eq]
    cases o with
    | none =>
      simp -implicitDefEqProofs only [st0, newVal, reduceIte, hlt, e1, p1, p2, hrn, f0, f1, hi, hst, i64_succ (show k < 2 ^ 62 by omega), Option.isSome_none]
      exact go none (fun i h => by cases h) rfl
    | some i =>
      have hvals := ho i rfl
      cases hb : (numP s).2 with
      | false =>
        have hnone : argsGo i k (s :: (ss.take n).drop (k + 1)) = none := by rw [argsGo, if_neg (by rw [hb]; simp)]
        rw [hb] at f0 f1
        simp -implicitDefEqProofs only [st0, newVal, reduceIte, hlt, e1, p1, p2, hrn, hb, f0, f1, hi, hst, i64_succ (show k < 2 ^ 62 by omega), Option.isSome_some]
        exact go none (fun i h => by cases h) (by simp [hnone])
      | true =>
        have hxv : x = (numP s).1 := (hx2 hb).trans (r2 hb)
        rw [hb] at f0 f1
        by_cases h0 : 0 ≤ x
        · by_cases h1 : x ≤ 255
          · have hsome : argsGo i k (s :: (ss.take n).drop (k + 1)) = argsGo (i.setA k x) (k + 1) ((ss.take n).drop (k + 1)) := by rw [argsGo, if_pos ⟨hb, by omega, by omega⟩, hxv]
            simp -implicitDefEqProofs only [st0, newVal, reduceIte, hlt, e1, p1, p2, hrn, hb, f0, f1, h0, h1, hi, hst, i64_succ (show k < 2 ^ 62 by omega), Option.isSome_some]
            refine go (some (i.setA k x)) (fun j hj => ?_) (by simp [hsome])
            simp only [Option.some.injEq] at hj
            subst hj
            rw [hvals]
            match k, (show k < 3 by omega) with
            | 0, _ | 1, _ | 2, _ => rfl
          · have hnone : argsGo i k (s :: (ss.take n).drop (k + 1)) = none := by rw [argsGo, if_neg (fun h => by omega)]
            simp -implicitDefEqProofs only [st0, newVal, reduceIte, hlt, e1, p1, p2, hrn, hb, f0, f1, h0, h1, hi, hst, i64_succ (show k < 2 ^ 62 by omega), Option.isSome_some]
            exact go none (fun i h => by cases h) (by simp [hnone])
        · have hnone : argsGo i k (s :: (ss.take n).drop (k + 1)) = none := by rw [argsGo, if_neg (fun h => by omega)]
          simp -implicitDefEqProofs only [st0, newVal, reduceIte, hlt, e1, p1, p2, hrn, hb, f0, f1, h0, hi, hst, i64_succ (show k < 2 ^ 62 by omega), Option.isSome_some]
          exact go none (fun i h => by cases h) (by simp [hnone])
end Go.Fx.Tryz
/- The reference's instruction of words, whole. -/
namespace Go.Fx.Tryz
open Go Go.Fx
set_option linter.unusedSimpArgs false
set_option linter.unusedVariables false

def In.setV (i : In) (v : Va) : In := { i with k := v.k, n := v.n, s := v.s }
theorem argsGo_setV (v : Va) : ∀ (ss : List (List UInt8)) (i : In) (k : Nat), argsGo (i.setV v) k ss = (argsGo i k ss).map fun j => j.setV v
  | [], i, k => rfl
  | s :: r, i, k => by
    have e : ∀ x, (i.setV v).setA k x = (i.setA k x).setV v := fun x => by unfold In.setA In.setV; split <;> rfl
    rw [argsGo, argsGo]
    split
    · rw [e, argsGo_setV v r]
    · rfl

theorem rinst_four {ws : List (List UInt8)} {wv : Value} {op : Int} {o : Option In} {vals : List Int} {lb X : Nat} {m : Mem} (hv : vals.length = 3) (hlb : m.get lb = some ⟨.cells ((encInt .i64).flat vals) 3, false, none⟩) (hX : m.get X = some ⟨.cells [.int .i64 0, .int .i64 0, .int .i64 0, .int .i64 0, .int .i64 0, .int .i64 0, .string ⟨#[]⟩] 37, false, none⟩)
    (hl : lb < m.next) (hXl : X < m.next) (hT : TSl encS m wv ws) (hwb : ∀ b ∈ blkOf wv, b < m.next) (h3 : op = 1 → 2 < ws.length) (hsz : ∀ s ∈ ws, s.length ≤ 2 ^ 39) (ho : ∀ i, o = some i → i = ⟨op, vals.getD 0 0, vals.getD 1 0, vals.getD 2 0, 0, 0, []⟩) :
    W (P27_4 wv (.pointer (some ⟨X, 0, none⟩)) (.int .i64 op) (.bool o.isSome) (.slice (some ⟨lb, 0, none⟩) 3 3) m) fun r m' => InstQ (if op = 1 then o.bind (fun i => if (valueP (ws.getD 2 [])).2 = true then finP (i.setV (valueP (ws.getD 2 [])).1) else none) else o.bind finP) r ∧ Upd [X] m m' := by
  match vals, hv, hlb, ho with
  | [v0, v1, v2], hv, hlb, ho =>
    have i0 : runIndexS 1 (.slice (some ⟨lb, 0, none⟩) 3 3) (.int .i64 0) = some (.pointer (some ⟨lb, 0, none⟩)) := rfl
    have i1 : runIndexS 1 (.slice (some ⟨lb, 0, none⟩) 3 3) (.int .i64 1) = some (.pointer (some ⟨lb, 1, none⟩)) := rfl
    have i2 : runIndexS 1 (.slice (some ⟨lb, 0, none⟩) 3 3) (.int .i64 2) = some (.pointer (some ⟨lb, 2, none⟩)) := rfl
    have l0 : ∀ {M : Mem}, M.get lb = m.get lb → runLoad1 (.pointer (some ⟨lb, 0, none⟩)) M = some (.int .i64 v0) := fun h => load_at (h.trans hlb) rfl
    have l1 : ∀ {M : Mem}, M.get lb = m.get lb → runLoad1 (.pointer (some ⟨lb, 1, none⟩)) M = some (.int .i64 v1) := fun h => load_at (h.trans hlb) rfl
    have l2 : ∀ {M : Mem}, M.get lb = m.get lb → runLoad1 (.pointer (some ⟨lb, 2, none⟩)) M = some (.int .i64 v2) := fun h => load_at (h.trans hlb) rfl
    have ef : afill [.int .i64 0, .int .i64 0, .int .i64 0, .int .i64 0, .int .i64 0, .int .i64 0, .string ⟨#[]⟩] [(0, 1, .int .i64 op), (1, 1, .int .i64 v0), (2, 1, .int .i64 v1), (3, 1, .int .i64 v2)] = some (encIn.cells ⟨op, v0, v1, v2, 0, 0, []⟩) := by rfl
    have ho' : ∀ i, o = some i → i = ⟨op, v0, v1, v2, 0, 0, []⟩ := ho
    rw [P27_4_eq]
    simp -implicitDefEqProofs only [st0, newVal, reduceIte, i0, i1, i2, l0 rfl, l1 rfl, l2 rfl, ef]
    refine W.bindO (store_whole (n := 7) (Mem.get_add_self _ _) rfl rfl rfl) ?_
    rw [cells_agg]
    have ha : (m.add ⟨.cells [.int .i64 0, .int .i64 0, .int .i64 0, .int .i64 0, .int .i64 0, .int .i64 0, .string ⟨#[]⟩] 37, false, none⟩).get lb = m.get lb := Mem.get_add_other _ _ (by omega)
    have hp : (Mem.put (m.add ⟨.cells [.int .i64 0, .int .i64 0, .int .i64 0, .int .i64 0, .int .i64 0, .int .i64 0, .string ⟨#[]⟩] 37, false, none⟩) m.next ⟨.cells (encIn.cells ⟨op, v0, v1, v2, 0, 0, []⟩) 37, false, none⟩).get lb = m.get lb := by rw [Mem.get_put, if_neg (by omega)]; exact ha
    refine W_chk.2 ⟨?_, ?_⟩
    · simp only [List.all_cons, List.all_nil, Bool.and_true, Bool.and_eq_true]
      refine ⟨okLoad (fun M hM => ?_) (by simp), okLoad (fun M hM => ?_) (by simp), okLoad (fun M hM => ?_) (by simp)⟩ <;>
      · simp only [List.mem_cons, List.not_mem_nil, or_false] at hM
        rcases hM with rfl | rfl | rfl
        · first | exact l0 rfl | exact l1 rfl | exact l2 rfl
        · first | exact l0 ha | exact l1 ha | exact l2 ha
        · first | exact l0 hp | exact l1 hp | exact l2 hp
    · generalize hm1 : Mem.put (m.add ⟨.cells [.int .i64 0, .int .i64 0, .int .i64 0, .int .i64 0, .int .i64 0, .int .i64 0, .string ⟨#[]⟩] 37, false, none⟩) m.next ⟨.cells (encIn.cells ⟨op, v0, v1, v2, 0, 0, []⟩) 37, false, none⟩ = m1
      have hu1 : Upd [] m m1 := hm1 ▸ (Upd.add [] m _).put' _ (.inr (Nat.le_refl _))
      have hB1 : m1.get m.next = some ⟨.cells (encIn.cells ⟨op, v0, v1, v2, 0, 0, []⟩) 37, false, none⟩ := by rw [← hm1]; exact Mem.get_put_self ..
      have hn1 : m1.next = m.next + 1 := by rw [← hm1]; rfl
      have hX1 := (hu1.same X hXl (by simp)).trans hX
      by_cases hop : op = 1
      · have hop' := eq_true hop
        have h2 : 2 < ws.length := h3 hop
        have hT1 := hT.upd hu1 (fun b hh => ⟨hwb b hh, by simp⟩)
        obtain ⟨p, p1, p2⟩ := idx_s hT1 h2
        have p1 : runIndexS 1 wv (.int .i64 2) = some p := p1
        have hgd : ws.getD 2 [] = ws[2] := by simp [List.getD, h2]
        have hsl := hsz _ (List.getElem_mem h2)
        rw [hgd, if_pos hop]
        generalize ws[2] = s at p2 hsl
        simp -implicitDefEqProofs only [st0, newVal, reduceIte, hop', p1, p2]
        refine W.bind (runvalue_ok hsl m1) fun r m2 ⟨⟨v, hr, hv2⟩, hu2⟩ => ?_
        subst hr
        have f0 : runExtract 0 (.tuple #[.agg (encVa.cells v).toArray, .bool (valueP s).2]) = some (.agg (encVa.cells v).toArray) := rfl
        have f1 : runExtract 1 (.tuple #[.agg (encVa.cells v).toArray, .bool (valueP s).2]) = some (.bool (valueP s).2) := rfl
        simp -implicitDefEqProofs only [st0, newVal, reduceIte, f0, f1]
        refine W.bindO (store_whole (n := 3) (Mem.get_add_self _ _) rfl rfl rfl) ?_
        rw [cells_agg]
        generalize hm3 : Mem.put _ m2.next ⟨.cells (encVa.cells v) 35, false, none⟩ = m3
        have hu3 : Upd [] m2 m3 := hm3 ▸ (Upd.add [] m2 _).put' _ (.inr (Nat.le_refl _))
        have hV3 : m3.get m2.next = some ⟨.cells (encVa.cells v) 35, false, none⟩ := by rw [← hm3]; exact Mem.get_put_self ..
        have hu13 := (hu1.then0 hu2).then0 hu3
        have hu23 := hu2.then0 hu3
        have hB3 := (hu23.same m.next (by omega) (by simp)).trans hB1
        have hX3 := (hu13.same X hXl (by simp)).trans hX
        have fB : runFieldAddr 4 (.pointer (some ⟨m.next, 0, none⟩)) = some (.pointer (some ⟨m.next, 0 + 4, none⟩)) := rfl
        have hn3 : m1.next ≤ m3.next := hu23.next
        have hst : runStore 3 (.pointer (some ⟨m.next, 0 + 4, none⟩)) (.agg (encVa.cells v).toArray) m3 = some (m3.put m.next ⟨.cells (encIn.cells ⟨op, v0, v1, v2, v.k, v.n, v.s⟩) 37, false, none⟩) := by
          have how : m3.ownAt m.next = some (encIn.cells ⟨op, v0, v1, v2, 0, 0, []⟩, 37, none) := by simp [Mem.ownAt, hB3]
          simp only [runStore, asPtr, Option.bind_some, how]
          rw [if_pos ⟨by rfl, by show 0 + 4 + 3 ≤ 7; omega, by rfl⟩]
          rfl
        simp -implicitDefEqProofs only [st0, newVal, reduceIte, load_whole (n := 3) hV3 rfl, fB, hst]
        have hu4 : Upd [] m (m3.put m.next ⟨.cells (encIn.cells ⟨op, v0, v1, v2, v.k, v.n, v.s⟩) 37, false, none⟩) := hu13.put' _ (.inr (Nat.le_refl _))
        have hX4 : (m3.put m.next ⟨.cells (encIn.cells ⟨op, v0, v1, v2, v.k, v.n, v.s⟩) 37, false, none⟩).get X = _ := (hu4.same X hXl (by simp)).trans hX
        have hB4 := Mem.get_put_self m3 m.next ⟨.cells (encIn.cells ⟨op, v0, v1, v2, v.k, v.n, v.s⟩) 37, false, none⟩
        have hn4 : (m3.put m.next ⟨.cells (encIn.cells ⟨op, v0, v1, v2, v.k, v.n, v.s⟩) 37, false, none⟩).next = m3.next := rfl
        have fin : ∀ ok : Bool, (if ok = true then finP ⟨op, v0, v1, v2, v.k, v.n, v.s⟩ else none) = (o.bind fun i => if (valueP s).2 = true then finP (i.setV (valueP s).1) else none) → W (P27_5 (.pointer (some ⟨X, 0, none⟩)) (.bool ok) (.pointer (some ⟨m.next, 0, none⟩)) (m3.put m.next ⟨.cells (encIn.cells ⟨op, v0, v1, v2, v.k, v.n, v.s⟩) 37, false, none⟩)) fun r m' => InstQ (o.bind fun i => if (valueP s).2 = true then finP (i.setV (valueP s).1) else none) r ∧ Upd [X] m m' := by
          intro ok he
          rw [← he]
          exact (rinst_end (ok := ok) hB4 hX4 rfl (by omega) (by omega) (by omega)).mono fun r m' ⟨q1, q2⟩ => ⟨q1, hu4.nil'.trans q2⟩
        rw [hop] at fin ⊢
        cases o with
        | none =>
          simp -implicitDefEqProofs only [st0, newVal, reduceIte, Option.isSome_none]
          exact fin false (by simp)
        | some i =>
          have hi := ho' i rfl
          simp -implicitDefEqProofs only [st0, newVal, reduceIte, Option.isSome_some]
          refine fin (valueP s).2 ?_
          cases hvs : (valueP s).2 with
          | false => simp
          | true =>
            have hvv := hv2 hvs
            simp only [if_true, Option.bind_some]
            rw [hi, ← hvv, hop]
            rfl
      · rw [if_neg hop]
        simp -implicitDefEqProofs only [st0, newVal, reduceIte, hop]
        refine (rinst_end (ok := o.isSome) hB1 hX1 rfl (by omega) (by omega) (by omega)).mono fun r m' ⟨q1, q2⟩ => ⟨?_, hu1.nil'.trans q2⟩
        cases o with
        | none => simpa using q1
        | some i =>
          have hi := ho' i rfl
          rw [hi]
          simpa using q1
end Go.Fx.Tryz
/- The reference's inst, from its start. -/
namespace Go.Fx.Tryz
open Go Go.Fx
set_option linter.unusedSimpArgs false
set_option linter.unusedVariables false

theorem argsGo_rest : ∀ (ss : List (List UInt8)) (i : In) (k : Nat) (j : In), argsGo i k ss = some j → j = ⟨i.op, j.a, j.b, j.c, i.k, i.n, i.s⟩
  | [], i, k, j, h => by
    simp only [argsGo, Option.some.injEq] at h
    subst h; rfl
  | s :: r, i, k, j, h => by
    rw [argsGo] at h
    split at h
    · have := argsGo_rest r _ _ j h
      unfold In.setA at this
      split at this <;> exact this
    · cases h
theorem instP_eq {w0 : List UInt8} {ss : List (List UInt8)} {n : Nat} (hok : (opn (idxP w0)).2 = true) (hn : (opn (idxP w0)).1 = (n : Int)) :
    instP (w0 :: ss) = if idxP w0 = 1 then (if ss.length ≠ n + 1 then none else (argsGo ⟨idxP w0, 0, 0, 0, 0, 0, []⟩ 0 (ss.take n)).bind fun i => if (valueP (ss[n]?.getD [])).2 = true then finP (i.setV (valueP (ss[n]?.getD [])).1) else none) else (if ss.length ≠ n then none else (argsGo ⟨idxP w0, 0, 0, 0, 0, 0, []⟩ 0 (ss.take n)).bind finP) := by
  unfold instP
  simp only [List.headD_cons, List.tail_cons, hok, hn, Int.toNat_natCast, Bool.true_eq_false, if_false]
  by_cases h1 : idxP w0 = 1
  · rw [if_pos h1, if_pos h1]
    by_cases h2 : ss.length ≠ n + 1
    · rw [if_pos h2, if_pos h2]
    · rw [if_neg h2, if_neg h2]
      have e := argsGo_setV (valueP (ss[n]?.getD [])).1 (ss.take n) ⟨idxP w0, 0, 0, 0, 0, 0, []⟩ 0
      have e' : In.setV ⟨idxP w0, 0, 0, 0, 0, 0, []⟩ (valueP (ss[n]?.getD [])).1 = ⟨idxP w0, 0, 0, 0, (valueP (ss[n]?.getD [])).1.k, (valueP (ss[n]?.getD [])).1.n, (valueP (ss[n]?.getD [])).1.s⟩ := rfl
      rw [e'] at e
      rw [e]
      cases hv : (valueP (ss[n]?.getD [])).2 with
      | false =>
        simp only [if_true, Bool.false_eq_true, if_false]
        cases argsGo ⟨idxP w0, 0, 0, 0, 0, 0, []⟩ 0 (ss.take n) <;> rfl
      | true =>
        simp only [Bool.true_eq_false, if_true, if_false]
        cases argsGo ⟨idxP w0, 0, 0, 0, 0, 0, []⟩ 0 (ss.take n) <;> rfl
  · rw [if_neg h1, if_neg h1]
    by_cases h2 : ss.length ≠ n
    · rw [if_pos h2, if_pos h2]
    · rw [if_neg h2, if_neg h2]
      have : ss.take n = ss := List.take_of_length_le (by omega)
      rw [this]

theorem ef_z3 : afill [.int .i64 0, .int .i64 0, .int .i64 0] [(0, 1, .int .i64 0), (1, 1, .int .i64 0), (2, 1, .int .i64 0)] = some ((encInt .i64).flat [0, 0, 0]) := by rfl
theorem ef_z7 : afill [.int .i64 0, .int .i64 0, .int .i64 0, .int .i64 0, .int .i64 0, .int .i64 0, .string ⟨#[]⟩] [] = some (encIn.cells ⟨0, 0, 0, 0, 0, 0, []⟩) := by rfl
theorem instQ_none : InstQ none (.tuple #[.agg (encIn.cells ⟨0, 0, 0, 0, 0, 0, []⟩).toArray, .bool false]) := ⟨⟨0, 0, 0, 0, 0, 0, []⟩, rfl, fun _ h => by cases h⟩

theorem rinst_two {w0 : List UInt8} {ss : List (List UInt8)} {wv : Value} {n want X : Nat} {m : Mem} {ok : Bool} (hok : ok = (opn (idxP w0)).2) (hn : (opn (idxP w0)).1 = (n : Int)) (hn3 : n ≤ 3) (hw : want = if idxP w0 = 1 then n + 2 else n + 1)
    (hX : m.get X = some ⟨.cells [.int .i64 0, .int .i64 0, .int .i64 0, .int .i64 0, .int .i64 0, .int .i64 0, .string ⟨#[]⟩] 37, false, none⟩) (hXl : X < m.next) (hT : TSl encS m wv (w0 :: ss)) (hwb : ∀ b ∈ blkOf wv, b < m.next) (hwX : ∀ b ∈ blkOf wv, b ≠ X) (hsz : ∀ s ∈ w0 :: ss, s.length ≤ 2 ^ 39) :
    W (P27_2 wv (.pointer (some ⟨X, 0, none⟩)) (.int .i64 (ropP w0)) (.int .i64 (n : Int)) (.bool ok) (.int .i64 (want : Int)) m) fun r m' => InstQ (instP (w0 :: ss)) r ∧ Upd [X] m m' := by
  have hlen : runLenSlice wv = some (.int .i64 ((ss.length + 1 : Nat) : Int)) := hT.len
  have bad : instP (w0 :: ss) = none → W ((runStore 7 (.pointer (some ⟨X, 0, none⟩)) (Value.agg (encIn.cells ⟨0, 0, 0, 0, 0, 0, []⟩).toArray) m).bind fun m10 => (runLoadN 7 (.pointer (some ⟨X, 0, none⟩)) m10).bind fun v11 => some (.tuple #[v11, (.bool false)], m10)) fun r m' => InstQ (instP (w0 :: ss)) r ∧ Upd [X] m m' := by
    intro h
    rw [h]
    refine W.bindO (store_whole (n := 7) hX rfl rfl rfl) ?_
    rw [cells_agg]
    exact W.bindO (load_whole (n := 7) (Mem.get_put_self _ _ _) rfl) (W_some.2 ⟨instQ_none, Upd.put _ _ (by simp)⟩)
  rw [P27_2_eq]
  cases ok with
  | false =>
    simp -implicitDefEqProofs only [st0, newVal, reduceIte, ef_z7]
    refine bad ?_
    unfold instP
    have h' : (opn (idxP ((w0 :: ss).headD []))).2 = false := hok.symm
    exact if_pos h'
  | true =>
    have hop : ropP w0 = idxP w0 := by
      have := opn_range hok.symm
      unfold ropP
      rw [if_pos this.1]
    have hi := instP_eq (ss := ss) hok.symm hn
    by_cases hl : ss.length + 1 = want
    · have hl' : (((ss.length + 1 : Nat) : Int) = (want : Int)) = True := by simp only [eq_iff_iff, iff_true]; omega
      simp -implicitDefEqProofs only [st0, newVal, reduceIte, hlen, hl', ne_eq, not_true_eq_false, not_false_eq_true, decide_true, decide_false, ef_z3]
      have hu1 : Upd [] m (m.add ⟨.cells ((encInt .i64).flat [0, 0, 0]) 3, false, none⟩) := Upd.add _ _ _
      have hg1 : (m.add ⟨.cells ((encInt .i64).flat [0, 0, 0]) 3, false, none⟩).get m.next = some ⟨.cells ((encInt .i64).flat [0, 0, 0]) 3, false, none⟩ := Mem.get_add_self ..
      have hn1 : (m.add ⟨.cells ((encInt .i64).flat [0, 0, 0]) 3, false, none⟩).next = m.next + 1 := rfl
      generalize m.add ⟨.cells ((encInt .i64).flat [0, 0, 0]) 3, false, none⟩ = m1 at hu1 hg1 hn1
      have hns : n ≤ ss.length := by split at hw <;> omega
      refine rargs_loop (X := X) (ws := w0 :: ss) (w0 := w0) (ss := ss) rfl hn3 hns (fun s h => hsz s (by simp [h])) n 0 (some ⟨ropP w0, 0, 0, 0, 0, 0, []⟩) [0, 0, 0] m1 (by omega) rfl hg1 (by omega) (fun m' h' => (hT.upd hu1 (fun b hh => ⟨hwb b hh, by simp⟩)).upd h' (fun b hh => ⟨by have := hwb b hh; omega, by have := hwb b hh; simp only [List.mem_singleton]; omega⟩)) (fun i h => by cases h; rfl) fun m2 vals h1 h2 h3 h4 => ?_
      have hu2 : Upd [] m m2 := hu1.then' h1 (fun b hb => by simp only [List.mem_singleton] at hb; exact .inr (by omega))
      have hnn := hu2.next
      have h1n := h1.next
      refine (rinst_four (ws := w0 :: ss) (o := (some (⟨ropP w0, 0, 0, 0, 0, 0, []⟩ : In)).bind fun i => argsGo i 0 ((ss.take n).drop 0)) (X := X) h2 h3 ((hu2.same X hXl (by simp)).trans hX) (by omega) (by omega) (hT.upd hu2 (fun b hh => ⟨hwb b hh, by simp⟩)) (fun b hh => by have := hwb b hh; omega) (fun e => ?_) hsz (fun i hi' => ?_)).mono fun r m3 ⟨q1, q2⟩ => ⟨?_, hu2.nil'.trans q2⟩
      · rw [hop] at e
        rw [if_pos e] at hw
        rw [e] at hn
        have : (n : Int) = 1 := by rw [← hn]; rfl
        simp only [List.length_cons]; omega
      · have hv := h4 i hi'
        have := argsGo_rest _ _ _ _ hi'
        rw [hv]
        exact this
      · simp only [Option.bind_some, List.drop_zero] at q1
        rw [hi]
        rw [hop] at q1
        by_cases h1 : idxP w0 = 1
        · rw [if_pos h1] at hw q1 ⊢
          rw [if_neg (by omega)]
          have hn1' : n = 1 := by
            rw [h1] at hn
            have : (n : Int) = 1 := by rw [← hn]; rfl
            omega
          have e2 : (w0 :: ss).getD 2 [] = ss[n]?.getD [] := by rw [hn1']; simp [List.getD]
          rw [e2] at q1
          exact q1
        · rw [if_neg h1] at hw q1 ⊢
          rw [if_neg (by omega)]
          exact q1
    · have hl' : (((ss.length + 1 : Nat) : Int) = (want : Int)) = False := by simp only [eq_iff_iff, iff_false]; omega
      simp -implicitDefEqProofs only [st0, newVal, reduceIte, hlen, hl', ne_eq, not_true_eq_false, not_false_eq_true, decide_true, decide_false, ef_z7]
      refine bad ?_
      rw [hi]
      split at hw
      · rename_i h1; rw [if_pos h1, if_pos (by omega)]
      · rename_i h1; rw [if_neg h1, if_pos (by omega)]

theorem rinst_ok {w0 : List UInt8} {ss : List (List UInt8)} {wv : Value} {m : Mem} (hT : TSl encS m wv (w0 :: ss)) (hwb : ∀ b ∈ blkOf wv, b < m.next) (hsz : ∀ s ∈ w0 :: ss, s.length ≤ 2 ^ 39) :
    W (Call S1 tab 27 [wv] m) fun r m' => InstQ (instP (w0 :: ss)) r ∧ Upd [] m m' := by
  rw [C27]
  refine W_nw.2 ?_
  have hu1 : Upd [] m (m.add ⟨.cells [.int .i64 0, .int .i64 0, .int .i64 0, .int .i64 0, .int .i64 0, .int .i64 0, .string ⟨#[]⟩] 37, false, none⟩) := Upd.add _ _ _
  have hg1 : (m.add ⟨.cells [.int .i64 0, .int .i64 0, .int .i64 0, .int .i64 0, .int .i64 0, .int .i64 0, .string ⟨#[]⟩] 37, false, none⟩).get m.next = some ⟨.cells [.int .i64 0, .int .i64 0, .int .i64 0, .int .i64 0, .int .i64 0, .int .i64 0, .string ⟨#[]⟩] 37, false, none⟩ := Mem.get_add_self ..
  have hn1 : (m.add ⟨.cells [.int .i64 0, .int .i64 0, .int .i64 0, .int .i64 0, .int .i64 0, .int .i64 0, .string ⟨#[]⟩] 37, false, none⟩).next = m.next + 1 := rfl
  generalize m.add ⟨.cells [.int .i64 0, .int .i64 0, .int .i64 0, .int .i64 0, .int .i64 0, .int .i64 0, .string ⟨#[]⟩] 37, false, none⟩ = m1 at hu1 hg1 hn1
  have hT1 := hT.upd hu1 (fun b hh => ⟨hwb b hh, by simp⟩)
  refine rinst_op (ws := w0 :: ss) (w0 := w0) rfl 19 1 0 m1 rfl (Nat.le_refl _) (by rw [if_neg (by omega)]) hT1 (fun b hh => by have := hwb b hh; omega) fun m2 hu2 => ?_
  have hu12 := hu1.then0 hu2
  have hnn := hu2.next
  obtain ⟨n, hn, hn3⟩ := opn_nat (ropP w0)
  have e0 : runExtract 0 (.tuple #[.int .i64 (opn (ropP w0)).1, .bool (opn (ropP w0)).2]) = some (.int .i64 (n : Int)) := by rw [hn]; rfl
  have e1 : runExtract 1 (.tuple #[.int .i64 (opn (ropP w0)).1, .bool (opn (ropP w0)).2]) = some (.bool (opn (ropP w0)).2) := rfl
  have a1 : arith .add (.int .i64 1) (.int .i64 (n : Int)) = some (.int .i64 ((n + 1 : Nat) : Int)) := by rw [i64_add (by omega) (by omega)]; congr 2; omega
  have a2 : arith .add (.int .i64 ((n + 1 : Nat) : Int)) (.int .i64 1) = some (.int .i64 ((n + 2 : Nat) : Int)) := i64_succ (show n + 1 < 2 ^ 62 by omega)
  have hropn := opn_rop w0
  have h1iff : ropP w0 = 1 ↔ idxP w0 = 1 := by
    unfold ropP
    split <;> omega
  have fin : ∀ want : Nat, (want = if idxP w0 = 1 then n + 2 else n + 1) → W (P27_2 wv (.pointer (some ⟨m.next, 0, none⟩)) (.int .i64 (ropP w0)) (.int .i64 (n : Int)) (.bool (opn (ropP w0)).2) (.int .i64 (want : Int)) m2) fun r m' => InstQ (instP (w0 :: ss)) r ∧ Upd [] m m' := by
    intro want hw
    refine (rinst_two (X := m.next) (by rw [hropn]) (by rw [← hropn]; exact hn) hn3 hw ((hu2.same m.next (by omega) (by simp)).trans hg1) (by omega) (hT.upd hu12 (fun b hh => ⟨hwb b hh, by simp⟩)) (fun b hh => by have := hwb b hh; omega) (fun b hh => by have := hwb b hh; omega) hsz).mono fun r m' ⟨q1, q2⟩ => ⟨q1, hu12.then' q2 (fun b hb => by simp only [List.mem_singleton] at hb; exact .inr (by omega))⟩
  rw [P27_1_eq]
  by_cases h1 : ropP w0 = 1
  · have h1' := eq_true h1
    simp -implicitDefEqProofs only [st0, newVal, reduceIte, roperands_ok, e0, e1, a1, a2, h1']
    exact fin (n + 2) (by rw [if_pos (h1iff.1 h1)])
  · simp -implicitDefEqProofs only [st0, newVal, reduceIte, roperands_ok, e0, e1, a1, a2, h1]
    exact fin (n + 1) (by rw [if_neg (fun e => h1 (h1iff.2 e))])
end Go.Fx.Tryz
/- The reference's reading of a text; both readings hand back the same. -/
namespace Go.Fx.Tryz
open Go Go.Fx
set_option linter.unusedSimpArgs false
set_option linter.unusedVariables false

def endP : Stp → List In × Nat × Int
  | .more _ acc => (acc, 0, 0)
  | .err k e => ([], k, e)
theorem readP_end (s : List UInt8) : readP s = endP (readGo (splitB 10 s) 0 []) := by
  unfold readP
  cases readGo (splitB 10 s) 0 [] <;> rfl

theorem ef_in (j : In) : afill [.int .i64 0, .int .i64 0, .int .i64 0, .int .i64 0, .int .i64 0, .int .i64 0, .string ⟨#[]⟩] [(0, 7, Value.agg (encIn.cells j).toArray)] = some (encIn.flat [j]) := by rfl

set_option maxRecDepth 100000 in
theorem rread_loop {ls : List (List UInt8)} {lv : Value} {base : Nat} (hn : ls.length ≤ 2 ^ 40) (hl : ∀ x ∈ ls, x.length ≤ 1048576) (hlb : ∀ b ∈ blkOf lv, b < base) : ∀ (d i : Nat) (m : Mem) (xv : Value) (acc : List In), i + d = ls.length → TSl encS m lv ls → base ≤ m.next → TAp encIn 37 m xv acc → (∀ b ∈ blkOf xv, base ≤ b) → acc.length ≤ 64 →
    W (P11_0 lv xv (.int .i64 (i : Int)) m) fun r m' => (∃ v, r = .tuple #[v, .int .i64 ((endP (readGo (ls.drop i) i acc)).2.1 : Int), .int .i64 (endP (readGo (ls.drop i) i acc)).2.2] ∧ TAp encIn 37 m' v (endP (readGo (ls.drop i) i acc)).1) ∧ Upd (blkOf xv) m m' := by
  intro d
  induction d with
  | zero =>
    intro i m xv acc hd hT hbm hA hxb hac
    obtain rfl : i = ls.length := by omega
    rw [P11_0_eq]
    simp -implicitDefEqProofs only [st0, newVal, reduceIte, hT.len, Int.lt_irrefl]
    rw [List.drop_length]
    exact ⟨⟨xv, rfl, hA⟩, Upd.refl _ _⟩
  | succ d ih =>
    intro i m xv acc hd hT hbm hA hxb hac
    have hi : i < ls.length := by omega
    have hlt : (i : Int) < (ls.length : Int) := by omega
    obtain ⟨p, p1, p2⟩ := idx_s hT hi
    have hdrop : ls.drop i = ls[i] :: ls.drop (i + 1) := List.drop_eq_getElem_cons hi
    have hx := hl _ (List.getElem_mem hi)
    rw [hdrop]
    generalize ls[i] = s at p2 hx
    have hf := fieldsW_len s
    have hs1 := i64_succ (show i < 2 ^ 62 by omega)
    have hkeep : ∀ {m' : Mem}, Upd [] m m' → TSl encS m' lv ls := fun h' => hT.upd h' (fun b hh => ⟨by have := hlb b hh; omega, by simp⟩)
    rw [P11_0_eq]
    simp -implicitDefEqProofs only [st0, newVal, reduceIte, hT.len, hlt, p1, p2]
    refine W.bind (rwords_ok (s := s) (by omega) m) fun wv m1 ⟨h1, u1, b1⟩ => ?_
    rw [readGo]
    unfold stepP
    cases hw : fieldsW s with
    | nil =>
      rw [hw] at h1
      simp -implicitDefEqProofs only [st0, newVal, reduceIte, h1.tsl.len, List.length_nil, hs1]
      exact (ih (i + 1) m1 xv acc (by omega) (hkeep u1) (Nat.le_trans hbm u1.next) (hA.upd0 u1) hxb hac).mono fun r m' ⟨q1, q2⟩ => ⟨q1, u1.nil'.trans q2⟩
    | cons w0 ss =>
      rw [hw] at h1 hf
      have hlen : runLenSlice wv = some (.int .i64 ((ss.length + 1 : Nat) : Int)) := h1.tsl.len
      have hne : ¬ (((ss.length + 1 : Nat) : Int) = 0) := by omega
      simp -implicitDefEqProofs only [st0, newVal, reduceIte, hlen, hne]
      refine W.bind (rinst_ok h1.tsl h1.lt (fun x hx' => by have := hf.2 x hx'; omega)) fun r m2 ⟨⟨j, hr, hj⟩, u2⟩ => ?_
      subst hr
      have f0 : runExtract 0 (.tuple #[.agg (encIn.cells j).toArray, .bool (instP (w0 :: ss)).isSome]) = some (.agg (encIn.cells j).toArray) := rfl
      have f1 : runExtract 1 (.tuple #[.agg (encIn.cells j).toArray, .bool (instP (w0 :: ss)).isSome]) = some (.bool (instP (w0 :: ss)).isSome) := rfl
      have u12 := u1.then0 u2
      refine W.bindO f0 (W.bindO f1 (W_nw.2 ?_))
      refine W.bindO (store_whole (n := 7) (Mem.get_add_self _ _) rfl rfl rfl) ?_
      rw [cells_agg]
      generalize hm3 : Mem.put _ m2.next ⟨.cells (encIn.cells j) 37, false, none⟩ = m3
      have u3 : Upd [] m2 m3 := hm3 ▸ (Upd.add [] m2 _).put' _ (.inr (Nat.le_refl _))
      have g3 : m3.get m2.next = some ⟨.cells (encIn.cells j) 37, false, none⟩ := by rw [← hm3]; exact Mem.get_put_self ..
      have u13 := u12.then0 u3
      have hnn := u13.next
      have hA3 := hA.upd0 u13
      have hne' : ¬ (w0 :: ss = []) := by simp
      cases hin : instP (w0 :: ss) with
      | none =>
        simp -implicitDefEqProofs only [st0, newVal, reduceIte, Option.isSome_none, hs1]
        exact ⟨⟨.slice none 0 0, rfl, TAp.nil _⟩, u13.nil'⟩
      | some i0 =>
        obtain rfl := hj i0 hin
        by_cases h64 : acc.length = 64
        · have h64' : (64 : Int) ≤ (acc.length : Int) := by omega
          simp -implicitDefEqProofs only [st0, newVal, reduceIte, Option.isSome_some, hA3.tsl.len, h64, show (64 : Int) ≤ ((64 : Nat) : Int) by decide, decide_true, hs1, if_true, hne', if_false]
          exact ⟨⟨.slice none 0 0, rfl, TAp.nil _⟩, u13.nil'⟩
        · have h64' : ¬ ((64 : Int) ≤ (acc.length : Int)) := by omega
          simp -implicitDefEqProofs only [st0, newVal, reduceIte, Option.isSome_some, hA3.tsl.len, h64', load_whole (n := 7) g3 rfl, ef_in, h64, hne', if_false]
          refine app_new (E := encIn) [j] (by decide) hA3 (by simp; omega) fun v' m8 a1 a2 a3 => ?_
          simp -implicitDefEqProofs only [st0, newVal, reduceIte, hs1]
          have u8 : Upd (blkOf xv) m m8 := u13.nil'.trans a2
          have hn8 := a2.next
          refine (ih (i + 1) m8 v' (acc ++ [j]) (by omega) (hT.upd u8 (fun b hh => ⟨by have := hlb b hh; omega, fun hm => by have := hlb b hh; have := hxb b hm; omega⟩)) (by omega) a1 (fun b hb => ?_) (by simp; omega)).mono fun r m' ⟨q1, q2⟩ => ⟨q1, u8.then' q2 (fun b hb => ?_)⟩
          · rcases a3 b hb with q | q
            · exact hxb b q
            · omega
          · rcases a3 b hb with q | q
            · exact .inl q
            · exact .inr (by omega)

set_option maxRecDepth 100000 in
theorem rread_ok {s : List UInt8} (hs : s.length ≤ 1048576) (m : Mem) : W (Call S1 tab 11 [str s] m) fun r m' => (∃ v, r = .tuple #[v, .int .i64 ((readP s).2.1 : Int), .int .i64 (readP s).2.2] ∧ TAp encIn 37 m' v (readP s).1) ∧ Upd [] m m' := by
  rw [C11]
  refine W.bind (rsplit_ok (s := s) 10 (by omega) m) fun lv m1 ⟨h1, u1, _⟩ => ?_
  have hsp := splitB_len 10 s
  have h := rread_loop (ls := splitB 10 s) (lv := lv) (base := m1.next) (by omega) (fun x hx => Nat.le_trans (hsp.2 x hx) hs) h1.lt (splitB 10 s).length 0 m1 (.slice none 0 0) [] (by omega) h1.tsl (Nat.le_refl _) (TAp.nil _) (by simp [blkOf]) (by simp)
  rw [List.drop_zero, ← readP_end] at h
  exact h.mono fun r m' ⟨q1, q2⟩ => ⟨q1, u1.then' q2 (fun b hb => by simp [blkOf] at hb)⟩

set_option maxRecDepth 100000 in
theorem readP_len {s : List UInt8} (hs : s.length ≤ 1048576) : (readP s).1.length ≤ 64 := by
  rw [readP_end]
  cases hrd : readGo (splitB 10 s) 0 [] with
  | err k e => simp [endP]
  | more k acc =>
    have hsp := splitB_len 10 s
    exact (read_only _ _ _ _ _ (fun ln hln => Nat.le_trans (hsp.2 ln hln) hs) (by simp) (by simp) hrd).1

set_option maxRecDepth 100000 in
theorem readsLaw {s : List UInt8} {m : Mem} (hs : s.length ≤ 1048576) (hg : Globs m) : W (Call S tab 4 [str s] m) fun r m' => r = .bool true := by
  rw [C4]
  refine W.bind (lives_ok hg) fun r m1 ⟨hr, hu1⟩ => ?_
  subst hr
  simp -implicitDefEqProofs only [st0, newVal, reduceIte]
  refine W.bind (read_ok (s := s) hs (hg.upd0 hu1)) fun r m2 ⟨v, hr, hv, hu2, hvb⟩ => ?_
  subst hr
  have e0 : ∀ v, runExtract 0 (.tuple #[v, .int .i64 ((readP s).2.1 : Int), .int .i64 (readP s).2.2]) = some v := fun v => rfl
  have e1 : ∀ v, runExtract 1 (.tuple #[v, .int .i64 ((readP s).2.1 : Int), .int .i64 (readP s).2.2]) = some (.int .i64 ((readP s).2.1 : Int)) := fun v => rfl
  have e2 : ∀ v, runExtract 2 (.tuple #[v, .int .i64 ((readP s).2.1 : Int), .int .i64 (readP s).2.2]) = some (.int .i64 (readP s).2.2) := fun v => rfl
  refine W.bindO (e0 v) (W.bindO (e1 v) (W.bindO (e2 v) ?_))
  refine W.bind (up (rread_ok (s := s) hs m2)) fun r m3 ⟨⟨w, hr, hw⟩, hu3⟩ => ?_
  subst hr
  have hl := readP_len hs
  have hv3 := hv.upd0 hu3
  have hsm : Call S tab 12 [v, w] m3 = some (.bool true, m3) := S_le _ _ _ _ (same_ok (by omega) hv3.tsl hw.tsl)
  refine W.bindO (e0 w) (W.bindO (e1 w) (W.bindO (e2 w) ?_))
  simp -implicitDefEqProofs only [st0, newVal, reduceIte, hsm, decide_true]
end Go.Fx.Tryz
