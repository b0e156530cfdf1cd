/- code.Write and what it is made of: which instructions may be; what error there is. -/
import Derived.Test.YtgmkehbebpljjaaGreatDoorDec
import Derived.Test.YtgmkehbebpljjaaGreatDoorFxStr
import Derived.Lib.ReplaceLaws
import Derived.Lib.SplitLaws
namespace Go.Fx.Tryz
open Go Go.Fx
set_option linter.unusedSimpArgs false
set_option linter.unusedVariables false

/-- The steps' rewriting rules, bound together. -/
theorem st0 : (∀ {α β : Type} (a : α) (f : α → Option β), (some a).bind f = f a) ∧
    (∀ {v : Value} {m : Mem} {Q : Value → Mem → Prop}, W (some (v, m)) Q ↔ Q v m) ∧
    (∀ {m : Mem} {x : ABlk} {k : Value → Mem → O} {Q : Value → Mem → Prop}, W (nw m x k) Q ↔ W (k (.pointer (some ⟨m.next, 0, none⟩)) (m.add x)) Q) ∧
    (∀ {m : Mem} {x : ABlk} {n : Nat} {k : Value → Mem → O} {Q : Value → Mem → Prop}, W (nws m x n k) Q ↔ W (k (.slice (some ⟨m.next, 0, none⟩) n n) (m.add x)) Q) ∧
    (∀ {b : Nat} {m : Mem} {x : ABlk} {n : Option Nat} {k : Value → Mem → O} {Q : Value → Mem → Prop}, W (nwAt b m x n k) Q ↔ W (k (newVal b n) (m.put b x)) Q) ∧
    (∀ a b : O, cnd (.bool true) a b = a) ∧ (∀ a b : O, cnd (.bool false) a b = b) ∧
    (∀ (o : O) (m : Mem), gdo (.bool true) true o m = o) ∧ (∀ (o : O) (m : Mem), gdo (.bool false) false o m = o) ∧
    (∀ (o : O) (m : Mem), gdo (.bool true) false o m = some (undef, m)) ∧ (∀ (o : O) (m : Mem), gdo (.bool false) true o m = some (undef, m)) ∧
    (∀ (w : Bool) (o : O) (m : Mem), gdo undef w o m = some (undef, m)) ∧
    (∀ (k : IntKind) (a b : Int), arith .lss (.int k a) (.int k b) = some (.bool (decide (a < b)))) ∧
    (∀ (k : IntKind) (a b : Int), arith .leq (.int k a) (.int k b) = some (.bool (decide (a ≤ b)))) ∧
    (∀ (k : IntKind) (a b : Int), arith .gtr (.int k a) (.int k b) = some (.bool (decide (b < a)))) ∧
    (∀ (k : IntKind) (a b : Int), arith .geq (.int k a) (.int k b) = some (.bool (decide (b ≤ a)))) ∧
    (∀ (k : IntKind) (a b : Int), arith .eql (.int k a) (.int k b) = some (.bool (decide (a = b)))) ∧
    (∀ (k : IntKind) (a b : Int), arith .neq (.int k a) (.int k b) = some (.bool (decide (¬ a = b)))) ∧
    (∀ b : Bool, asB (.bool b) = some b) ∧ (∀ b : Bool, runUn .not (.bool b) = some (.bool !b)) ∧
    (∀ (p : Prop) [Decidable p], runUn .not (.bool (decide p)) = some (.bool (decide (¬ p)))) ∧
    (∀ (k : IntKind) (a b : Int), foldV max2 (.int k a) [.int k b] = some (.int k (if b > a then b else a))) ∧
    (∀ (k : IntKind) (a b : Int), foldV min2 (.int k a) [.int k b] = some (.int k (if b < a then b else a))) ∧
    ((!true) = false) ∧ ((!false) = true) ∧ (∀ h : Decidable True, @decide True h = true) ∧ (∀ h : Decidable False, @decide False h = false) ∧
    (∀ {p : Prop} [Decidable p] [Decidable (¬ p)], decide (¬ p) = !decide p) ∧
    (∀ {α : Type} {h : Decidable True} (t e : α), @ite α True h t e = t) ∧ (∀ {α : Type} {h : Decidable False} (t e : α), @ite α False h t e = e) ∧
    ((false = true) = False) ∧ ((¬ True) = False) ∧ ((¬ False) = True) ∧ ((true = false) = False) :=
  ⟨Option.bind_some, W_some, W_nw, W_nws, W_nwAt, cnd_true, cnd_false, gdo_tt, gdo_ff, gdo_tf, gdo_ft, gdo_u, ar_lss, ar_leq, ar_gtr, ar_geq, ar_eql, ar_neq, asB_b, un_not, un_notd, max_i, min_i, Bool.not_true, Bool.not_false, fun _ => decide_true _, fun _ => decide_false _, decide_not, if_true, if_false, Bool.false_eq_true, not_true_eq_false, not_false_eq_true, Bool.true_eq_false⟩

/-- An instruction: what it does, its operands, its value (kind, number, text). -/
structure In where
  op : Int
  a : Int
  b : Int
  c : Int
  k : Int
  n : Int
  s : List UInt8
deriving DecidableEq
def encIn : Enc In := ⟨7, fun i => [.int .i64 i.op, .int .i64 i.a, .int .i64 i.b, .int .i64 i.c, .int .i64 i.k, .int .i64 i.n, str i.s], fun _ => rfl, fun _ => rfl⟩
theorem isize : encIn.size = 7 := rfl
/-- Within the machine's words; its text is no longer than can be. -/
def I64 (x : Int) : Prop := -9223372036854775808 ≤ x ∧ x ≤ 9223372036854775807
structure In.Ok (i : In) : Prop where
  op : I64 i.op
  a : I64 i.a
  b : I64 i.b
  c : I64 i.c
  k : I64 i.k
  n : I64 i.n
  s : i.s.length ≤ 67108864
/-- A value. -/
structure Va where
  k : Int
  n : Int
  s : List UInt8
deriving DecidableEq
def encVa : Enc Va := ⟨3, fun i => [.int .i64 i.k, .int .i64 i.n, str i.s], fun _ => rfl, fun _ => rfl⟩
theorem vsize : encVa.size = 3 := rfl
abbrev In.v (i : In) : Va := ⟨i.k, i.n, i.s⟩

/- pack -/
theorem wide_ok {m : Mem} (k : Int) (h1 : 1 ≤ k) (h8 : k ≤ 8) : Call S1 tab 68 [.int .i64 k] m = some (.int .i64 k, m) := by
  rw [C68]
  have e1 : foldV max2 (.int .i64 k) [.int .i64 1] = some (.int .i64 k) := by rw [max_i]; congr 2; split <;> omega
  have e2 : foldV min2 (.int .i64 k) [.int .i64 8] = some (.int .i64 k) := by rw [min_i]; congr 2; split <;> omega
  simp only [e1, e2, Option.bind_some]

theorem fdiv_pow (x : Int) (h0 : 0 ≤ x) (k : Nat) : x.fdiv (2 ^ k) = x / (2 ^ k) := Int.fdiv_eq_ediv_of_nonneg _ (Int.le_of_lt (Int.pow_pos (by decide)))
theorem shr_u64 (x : Int) (h0 : 0 ≤ x) {kk : IntKind} {k : Nat} (hk : k ≤ 64) : arith .shr (.int .u64 x) (.int kk (k : Int)) = some (.int .u64 (x / 2 ^ k)) := by
  have h1 : ¬ ((k : Int) < 0) := by omega
  have h2 : min (k : Int).toNat IntKind.u64.bits = k := by
    rw [Int.toNat_natCast]; exact Nat.min_eq_left hk
  simp only [arith, if_neg h1, h2, fdiv_pow x h0]

/-- pack.Fits at one byte. -/
theorem fits1_ok {m : Mem} (x : Int) (h0 : 0 ≤ x) (h1 : x < 2 ^ 64) : Call S1 tab 48 [.int .u64 x, .int .i64 1] m = some (.bool (decide (x < 256)), m) := by
  rw [C48, wide_ok 1 (by decide) (by decide)]
  have e1 : arith .mul (.int .i64 8) (.int .i64 1) = some (.int .i64 8) := by kernel_rfl
  have e2 : arith .sub (.int .i64 8) (.int .i64 1) = some (.int .i64 7) := by kernel_rfl
  have e3 : arith .shr (.int .u64 x) (.int .i64 7) = some (.int .u64 (x / 2 ^ 7)) := shr_u64 x h0 (kk := .i64) (k := 7) (by decide)
  have e4 : arith .shr (.int .u64 (x / 2 ^ 7)) (.int .u64 1) = some (.int .u64 (x / 2 ^ 7 / 2 ^ 1)) := shr_u64 (x / 2 ^ 7) (Int.ediv_nonneg h0 (by decide)) (kk := .u64) (k := 1) (by decide)
  have e5 : decide (x / 2 ^ 7 / 2 ^ 1 = 0) = decide (x < 256) := by
    congr 1
    apply propext
    constructor <;> intro h <;> omega
  simp only [Option.bind_some, e1, e2, e3, e4, ar_eql, e5]

/-- The bytes of a number: k, the highest first. -/
def be (n : Nat) : Nat → List UInt8
  | 0 => []
  | k + 1 => UInt8.ofNat (n / 2 ^ (8 * k)) :: be n k
theorem be_length (n : Nat) : ∀ k, (be n k).length = k
  | 0 => rfl
  | k + 1 => by simp [be, be_length n k]
theorem conv_u8 (n k : Nat) : runConv .u8 (.int .u64 ((n : Int) / 2 ^ (8 * k))) = some (.int .u8 ((UInt8.ofNat (n / 2 ^ (8 * k))).toNat : Int)) := by
  have h : ((n : Int) / 2 ^ (8 * k)) = ((n / 2 ^ (8 * k) : Nat) : Int) := by simp
  rw [h]
  simp only [runConv, IntKind.wrap]
  simp [IntKind.signed, IntKind.bits]

theorem afill_b (b : UInt8) : afill [.int .u8 0] [(0, 1, .int .u8 (b.toNat : Int))] = some (encB.flat [b]) := by rfl

theorem num_loop {n : Nat} (hn : n < 2 ^ 64) : ∀ (k : Nat) (m : Mem) (v : Value) (l : List UInt8), k ≤ 8 → TAp encB 5 m v l → l.length + k ≤ 2 ^ 41 →
    W (P50_0 v (.int .u64 (n : Int)) (.int .i64 ((k : Int) - 1)) m) fun v' m' => TAp encB 5 m' v' (l ++ be n k) ∧ Upd (blkOf v) m m' ∧ ∀ b ∈ blkOf v', b ∈ blkOf v ∨ m.next ≤ b := by
  intro k
  induction k with
  | zero =>
    intro m v l _ h hl
    have h1 : ¬ ((0 : Int) ≤ ((0 : Nat) : Int) - 1) := by omega
    rw [P50_0_eq]
    simp -implicitDefEqProofs only [st0, newVal, reduceIte, h1]
    exact ⟨by simpa [be] using h, Upd.refl _ _, fun b hb => .inl hb⟩
  | succ k ih =>
    intro m v l hk h hl
    have h1 : ((0 : Int) ≤ ((k + 1 : Nat) : Int) - 1) := by omega
    have e0 : ((k + 1 : Nat) : Int) - 1 = (k : Int) := by simp
    have e1 : arith .mul (.int .i64 8) (.int .i64 (k : Int)) = some (.int .i64 ((8 * k : Nat) : Int)) := by
      rw [ar_mul, wrap64 (by omega) (by omega)]; simp
    have e2 : arith .shr (.int .u64 (n : Int)) (.int .i64 ((8 * k : Nat) : Int)) = some (.int .u64 ((n : Int) / 2 ^ (8 * k))) := shr_u64 (n : Int) (Int.natCast_nonneg n) (kk := .i64) (k := 8 * k) (by omega)
    have e3 : arith .sub (.int .i64 (k : Int)) (.int .i64 1) = some (.int .i64 ((k : Int) - 1)) := by rw [ar_sub, wrap64 (by omega) (by omega)]
    rw [P50_0_eq, e0]
    rw [e0] at h1
    simp -implicitDefEqProofs only [st0, newVal, reduceIte, h1, e1, e2, conv_u8, afill_b]
    refine app_new (E := encB) [UInt8.ofNat (n / 2 ^ (8 * k))] (by decide) h (by simp; omega) fun v' m' g1 g2 g3 => ?_
    simp -implicitDefEqProofs only [st0, newVal, reduceIte, e3]
    refine (ih m' v' _ (by omega) g1 (by simp; omega)).mono fun v2 m2 ⟨q1, q2, q3⟩ => ⟨?_, g2.then' q2 g3, fun b hb => ?_⟩
    · simpa [be] using q1
    · rcases q3 b hb with q | q
      · exact g3 b q
      · exact .inr (Nat.le_trans g2.next q)

/-- pack.Num. -/
theorem num_ok {m : Mem} {v : Value} {l : List UInt8} {n k : Nat} (hn : n < 2 ^ 64) (h1 : 1 ≤ k) (h8 : k ≤ 8) (h : TAp encB 5 m v l) (hl : l.length ≤ 2 ^ 40) :
    W (Call S1 tab 50 [v, .int .u64 (n : Int), .int .i64 (k : Int)] m) fun v' m' => TAp encB 5 m' v' (l ++ be n k) ∧ Upd (blkOf v) m m' ∧ ∀ b ∈ blkOf v', b ∈ blkOf v ∨ m.next ≤ b := by
  have e3 : arith .sub (.int .i64 (k : Int)) (.int .i64 1) = some (.int .i64 ((k : Int) - 1)) := by rw [ar_sub, wrap64 (by omega) (by omega)]
  rw [C50, wide_ok k (by omega) (by omega)]
  simp -implicitDefEqProofs only [st0, newVal, reduceIte, e3]
  exact num_loop hn k m v l h8 h (by omega)

/-- pack.Str. -/
theorem pstr_ok {m : Mem} {v : Value} {l s : List UInt8} (h : TAp encB 5 m v l) (hl : l.length ≤ 2 ^ 40) (hs : s.length ≤ 2 ^ 40) :
    W (Call S1 tab 51 [v, str s] m) fun v' m' => TAp encB 5 m' v' (l ++ UInt8.ofNat (min s.length 255) :: s.take 255) ∧ Upd (blkOf v) m m' ∧ ∀ b ∈ blkOf v', b ∈ blkOf v ∨ m.next ≤ b := by
  have e1 : (if (255 : Int) < (s.length : Int) then (255 : Int) else (s.length : Int)) = ((min s.length 255 : Nat) : Int) := by split <;> omega
  have e2 : runConv .u8 (.int .i64 ((min s.length 255 : Nat) : Int)) = some (.int .u8 ((UInt8.ofNat (min s.length 255)).toNat : Int)) := by
    simp only [runConv, IntKind.wrap]
    simp [IntKind.signed, IntKind.bits]
  have e3 : (s.take (min s.length 255)) = s.take 255 := by
    rw [Nat.min_comm]
    rcases Nat.le_total s.length 255 with h | h
    · rw [Nat.min_eq_right h, List.take_length, List.take_of_length_le h]
    · rw [Nat.min_eq_left h]
  have e4 : (s.take 255).length = min s.length 255 := by simp [Nat.min_comm]
  rw [C51]
  simp -implicitDefEqProofs only [st0, newVal, reduceIte, len_str, e1]
  simp -implicitDefEqProofs only [st0, newVal, reduceIte, slice_str_upto (l := s) (b := min s.length 255) (Nat.min_le_left ..), e3, len_str, e4, e2, afill_b]
  refine app_new (E := encB) [UInt8.ofNat (min s.length 255)] (by decide) h (by simp; omega) fun v' m' g1 g2 g3 => ?_
  refine app_src (E := encB) (s.take 255) (by decide) g1 (src_str _ _) (by simp; omega) fun v2 m2 q1 q2 q3 => ?_
  refine W_some.2 ⟨by simpa using q1, g2.then' q2 g3, fun b hb => ?_⟩
  rcases q3 b hb with q | q
  · exact g3 b q
  · exact .inr (Nat.le_trans g2.next q)

/- code -/
def opTab : List Int := [-1, 1, 2, 3, 3, 3, 3, 3, 3, 1, 2, 2, 2, 1, 1, 1, 3, 0, 1, 1]
/-- How many operands an instruction has; whether there is one. -/
def opn (op : Int) : Int × Bool := if op ≤ 0 ∨ 19 < op then (0, false) else (opTab[op.toNat]?.getD 0, true)
theorem opTab_at {op : Int} (h0 : 0 < op) (h1 : op ≤ 19) : ∃ n : Nat, opTab[op.toNat]? = some (n : Int) ∧ n ≤ 3 := by
  obtain ⟨k, rfl⟩ := Int.eq_ofNat_of_zero_le (Int.le_of_lt h0)
  have hk : k ≤ 19 := by omega
  have : k ≠ 0 := by omega
  rw [Int.toNat_natCast]
  have hall : ∀ k : Fin 20, k.val ≠ 0 → ∃ n : Fin 4, opTab[k.val]? = some ((n.val : Nat) : Int) := by decide
  obtain ⟨n, hn⟩ := hall ⟨k, by omega⟩ this
  exact ⟨n.val, hn, by omega⟩
theorem opn_nat (op : Int) : ∃ n : Nat, (opn op).1 = (n : Int) ∧ n ≤ 3 := by
  unfold opn
  split
  · exact ⟨0, rfl, by omega⟩
  · obtain ⟨n, h1, h2⟩ := opTab_at (op := op) (by omega) (by omega)
    exact ⟨n, by rw [h1]; rfl, h2⟩

theorem operands_ok (m : Mem) : W (Call S1 tab 53 [] m) fun v m' => v = .agg (opTab.map fun x => Value.int .i64 x).toArray ∧ Upd [] m m' := by
  rw [C53]
  refine W_nw.2 ?_
  refine W.bindO (a := opTab.map fun x => Value.int .i64 x) (by kernel_rfl) ?_
  refine W.bindO (store_whole (n := 20) (Mem.get_add_self _ _) rfl rfl rfl) ?_
  refine W.bindO (load_whole (n := 20) (Mem.get_put_self _ _ _) rfl) ?_
  refine W_some.2 ⟨by simp only [cells_agg], ((Upd.add [] m _).put' _ (.inr (Nat.le_refl _)))⟩

theorem Operands_ok {op : Int} (h : I64 op) (m : Mem) : W (Call S1 tab 31 [.int .i64 op] m) fun v m' => v = .tuple #[.int .i64 (opn op).1, .bool (opn op).2] ∧ Upd [] m m' := by
  rw [C31]
  unfold opn
  by_cases h0 : op ≤ 0
  · simp -implicitDefEqProofs only [st0, newVal, reduceIte, h0, true_or]
    exact ⟨trivial, Upd.refl _ _⟩
  · by_cases h1 : 19 < op
    · simp -implicitDefEqProofs only [st0, newVal, reduceIte, h0, h1, or_true]
      exact ⟨trivial, Upd.refl _ _⟩
    · simp -implicitDefEqProofs only [st0, newVal, reduceIte, h0, h1, or_self]
      refine W.bind (operands_ok m) fun v m' ⟨hv, hu⟩ => ?_
      subst hv
      obtain ⟨n, hn, _⟩ := opTab_at (op := op) (by omega) (by omega)
      refine W.bindO (a := .int .i64 n) ?_ (W_some.2 ⟨by rw [hn]; rfl, hu⟩)
      have hc : (0 : Int) ≤ op ∧ op < ((20 : Nat) : Int) := by omega
      simp only [runIndexArr, if_pos hc, partOf, Nat.mul_one, Bool.false_eq_true, if_false, List.getElem?_toArray, List.getElem?_map, hn, Option.map_some]

theorem list_ok (i : In) (m : Mem) : W (Call S1 tab 47 [.agg (encIn.cells i).toArray] m) fun v m' => TSl (encInt .i64) m' v [i.a, i.b, i.c] ∧ Upd [] m m' ∧ (∀ b ∈ blkOf v, m.next ≤ b ∧ b < m'.next) := by
  rw [C47]
  refine W_nw.2 ?_
  rw [cells_agg]
  have hg := Mem.get_add_self m ⟨.cells (encIn.cells i) 37, false, none⟩
  refine W.bindO rfl (W.bindO (load_at hg rfl) (W.bindO rfl (W.bindO (load_at hg rfl) (W.bindO rfl (W.bindO (load_at hg rfl) ?_)))))
  refine W.bindO (a := (encInt .i64).flat [i.a, i.b, i.c]) (by kernel_rfl) ?_
  refine W_nws.2 (W_some.2 ?_)
  have := TAp.fresh (E := encInt .i64) (e := 3) (m.add ⟨.cells (encIn.cells i) 37, false, none⟩) [i.a, i.b, i.c]
  exact ⟨this.tsl, (Upd.add [] m _).add' _, fun b hb => by simp [blkOf] at hb; subst hb; simp⟩

/- which values may be -/
def oddV (v : Va) : Bool := if v.k = 1 then decide (¬ v.s = []) else if v.k = 2 then decide (¬ v.n = 0) else true
theorem odd_ok (v : Va) (m : Mem) : W (Call S1 tab 70 [.agg (encVa.cells v).toArray] m) fun r m' => r = .bool (oddV v) ∧ Upd [] m m' := by
  rw [C70]
  refine W_nw.2 ?_
  rw [cells_agg]
  have hg := Mem.get_add_self m ⟨.cells (encVa.cells v) 35, false, none⟩
  have l0 : runLoad1 (.pointer (some ⟨m.next, 0 + 0, none⟩)) (m.add ⟨.cells (encVa.cells v) 35, false, none⟩) = some (.int .i64 v.k) := load_at hg rfl
  have l1 : runLoad1 (.pointer (some ⟨m.next, 0 + 1, none⟩)) (m.add ⟨.cells (encVa.cells v) 35, false, none⟩) = some (.int .i64 v.n) := load_at hg rfl
  have l2 : runLoad1 (.pointer (some ⟨m.next, 0 + 2, none⟩)) (m.add ⟨.cells (encVa.cells v) 35, false, none⟩) = some (str v.s) := load_at hg rfl
  have f : ∀ k, runFieldAddr k (.pointer (some ⟨m.next, 0, none⟩)) = some (.pointer (some ⟨m.next, 0 + k, none⟩)) := fun k => rfl
  have hn : ∀ l : List UInt8, arith .neq (str l) (.string ⟨#[]⟩) = some (.bool (decide (¬ l = []))) := fun l => neq_str l []
  unfold oddV
  by_cases h1 : v.k = 1
  · simp -implicitDefEqProofs only [st0, newVal, reduceIte, f, l0, l1, l2, h1, hn]
    exact ⟨trivial, Upd.add _ _ _⟩
  · by_cases h2 : v.k = 2
    · simp -implicitDefEqProofs only [st0, newVal, reduceIte, f, l0, l1, l2, h1, h2, hn, show ¬ (2 : Int) = 1 by decide]
      exact ⟨trivial, Upd.add _ _ _⟩
    · simp -implicitDefEqProofs only [st0, newVal, reduceIte, f, l0, l1, l2, h1, h2, hn]
      exact ⟨trivial, Upd.add _ _ _⟩
end Go.Fx.Tryz
/- keys.Write: which tuples have bytes; code.right, code.put, code.Write. -/
namespace Go.Fx.Tryz
open Go Go.Fx
set_option linter.unusedSimpArgs false
set_option linter.unusedVariables false

theorem Globs.upd {m m' : Mem} (h : Globs m) {fp : List Nat} (hu : Upd fp m m') (hf : ∀ b ∈ fp, 4 ≤ b) : Globs m' :=
  h.keep (fun b hb => hu.same b (by have := h.low; omega) (fun hm => by have := hf b hm; omega)) hu.next
theorem Globs.upd0 {m m' : Mem} (h : Globs m) (hu : Upd [] m m') : Globs m' := h.upd hu (fun b hb => by simp at hb)

theorem okLoad {ms : List Mem} {p v : Value} {lo hi : Nat} (h : ∀ M ∈ ms, runLoad1 p M = some v) (hhi : hi < ms.length) : okReq ms (.load1 p, v, lo, hi) = true := by
  unfold okReq
  simp only [List.all_eq_true, List.mem_range]
  intro k hk
  have hlt : lo + k < ms.length := by omega
  rw [List.getElem?_eq_getElem hlt]
  simp only
  rw [show (Req.load1 p).run ms[lo + k] = runLoad1 p ms[lo + k] from rfl, h _ (List.getElem_mem hlt)]
  exact veq_refl v
theorem chk1 {ms : List Mem} {p v : Value} {lo hi : Nat} {o : O} {Q : Value → Mem → Prop} (h : ∀ M ∈ ms, runLoad1 p M = some v) (hhi : hi < ms.length) (hw : W o Q) : W (chk ms [(.load1 p, v, lo, hi)] o) Q :=
  W_chk.2 ⟨by simp [okLoad h hhi], hw⟩

/- strings.ReplaceAll of a nought -/
theorem replaceK_len (o n : List UInt8) (hn : n.length = 2) : ∀ (k : Nat) (s : List UInt8), (Lib.replaceK o n k s).length ≤ s.length + 2 * k
  | 0, s => by simp [Lib.replaceK]
  | k + 1, s => by
    unfold Lib.replaceK
    split
    · omega
    · have ih := replaceK_len o n hn k (s.drop ((Lib.index s o).toNat + o.length))
      simp only [List.length_append, List.length_take, List.length_drop, hn] at ih ⊢
      omega
theorem repl_len (s : List UInt8) : (Lib.replaceAll s [0] [0, 255]).length ≤ 3 * s.length := by
  unfold Lib.replaceAll Lib.replace
  split
  · omega
  · have h1 := replaceK_len [0] [0, 255] rfl (Lib.replaceNum s [0] (-1)) s
    have h2 : Lib.replaceNum s [0] (-1) = Lib.count s [0] := by simp [Lib.replaceNum]
    have h3 := Lib.countB_le ⟨#[0]⟩ (by decide) s.length ⟨s.toArray⟩ (by simp [ByteArray.size])
    have h4 : Lib.countB ⟨s.toArray⟩ ⟨#[0]⟩ = Lib.count s [0] := rfl
    simp only [ByteArray.size, List.size_toArray] at h3
    omega

/-- strings.ReplaceAll, where the text is no longer than can be. -/
theorem repl_ok {m : Mem} (hg : Globs m) {s : List UInt8} (hs : s.length ≤ 67108864) :
    Call S1 tab 71 [str s, .string ⟨#[0]⟩, .string ⟨#[0, 255]⟩] m = some (str (Lib.replaceAll s [0] [0, 255]), m) := by
  refine Call_hook ?_
  have h3 := Lib.countB_le ⟨#[0]⟩ (by decide) s.length ⟨s.toArray⟩ (by simp [ByteArray.size])
  simp only [ByteArray.size, List.size_toArray] at h3
  have h4 : (⟨#[0]⟩ : ByteArray).size = 1 := rfl
  have h5 : (⟨#[0, 255]⟩ : ByteArray).size = 2 := rfl
  have h6 : (⟨s.toArray⟩ : ByteArray).size = s.length := by simp [ByteArray.size]
  unfold S1
  rw [if_neg (by decide), if_neg (by decide), if_neg (by decide), if_pos rfl]
  unfold aRepl
  simp only [str]
  rw [if_pos ⟨hg.len, by rw [h6]; omega, by rw [h4]; decide, by rw [h5, h6]; omega⟩]

/- keys.Write -/
theorem xor_u64 (a b : Int) : ∃ c : Nat, c < 2 ^ 64 ∧ arith .xor (.int .u64 a) (.int .u64 b) = some (.int .u64 (c : Int)) := by
  refine ⟨(BitVec.ofInt 64 a ^^^ BitVec.ofInt 64 b).toNat, (BitVec.ofInt 64 a ^^^ BitVec.ofInt 64 b).isLt, ?_⟩
  have hlt := (BitVec.ofInt 64 a ^^^ BitVec.ofInt 64 b).isLt
  show ((ibits .xor .u64 a b).map (Value.int .u64)) = _
  simp only [ibits, Option.map_some]
  congr 2
  show IntKind.u64.wrap ((BitVec.ofInt 64 a ^^^ BitVec.ofInt 64 b).toNat : Int) = _
  exact wrapU64 (by omega) (by omega)
theorem convu (n : Int) : ∃ c : Nat, c < 2 ^ 64 ∧ runConv .u64 (.int .i64 n) = some (.int .u64 (c : Int)) := by
  have h1 : 0 ≤ n % 2 ^ 64 := Int.emod_nonneg _ (by decide)
  have h2 : n % 2 ^ 64 < 2 ^ 64 := Int.emod_lt_of_pos _ (by decide)
  obtain ⟨c, hc⟩ := Int.eq_ofNat_of_zero_le h1
  refine ⟨c, by omega, ?_⟩
  simp only [runConv, IntKind.wrap, IntKind.signed, IntKind.bits, Bool.false_and, Bool.false_eq_true, if_false]
  rw [← hc]

def anyOdd (l : List Va) : Bool := l.any oddV
theorem idx_loop {L : List Va} {sv : Value} (hL : L.length ≤ 2 ^ 40) : ∀ (d i : Nat) (m : Mem), i + d = L.length → (∀ m', Upd [] m m' → TSl encVa m' sv L) → 
    W (P81_0 sv (.func (.func 70) #[] #[]) (.int .i64 (L.length : Int)) (.int .i64 (i : Int)) m) fun v m' => (∃ r : Int, v = .int .i64 r ∧ (0 ≤ r ↔ anyOdd (L.drop i) = true)) ∧ Upd [] m m' := by
  intro d
  induction d with
  | zero =>
    intro i m hd hT
    obtain rfl : i = L.length := by omega
    rw [P81_0_eq]
    simp -implicitDefEqProofs only [st0, newVal, reduceIte, Int.lt_irrefl]
    exact ⟨⟨-1, rfl, by simp [anyOdd]⟩, Upd.refl _ _⟩
  | succ d ih =>
    intro i m hd hT
    have hi : i < L.length := by omega
    have hlt : (i : Int) < (L.length : Int) := by omega
    have hx : L[i]? = some L[i] := List.getElem?_eq_getElem hi
    obtain ⟨b, off, p1, p2⟩ := (hT m (Upd.refl _ _)).at .i64 hx
    have hcap : capsOf (.func (.func 70) #[] #[]) = some (70, [], []) := by rfl
    have p1 : runIndexS 3 sv (.int .i64 (i : Int)) = _ := p1
    have p2 : ∀ m', TSl encVa m' sv L → runLoadN 3 (.pointer (some ⟨b, off, none⟩)) m' = _ := fun m' h => (p2 m' h).1
    rw [P81_0_eq]
    simp -implicitDefEqProofs only [st0, newVal, reduceIte, hlt, p1, p2 m (hT m (Upd.refl _ _)), hcap, List.nil_append, List.append_nil]
    refine W.bind (odd_ok L[i] m) fun v m' ⟨hv, hu⟩ => ?_
    subst hv
    have hdrop : L.drop i = L[i] :: L.drop (i + 1) := List.drop_eq_getElem_cons hi
    cases ho : oddV L[i] with
    | true =>
      simp -implicitDefEqProofs only [st0, newVal, reduceIte, ho]
      exact ⟨⟨i, rfl, by rw [hdrop]; simp only [anyOdd, List.any_cons, ho, Bool.true_or, iff_true]; omega⟩, hu⟩
    | false =>
      simp -implicitDefEqProofs only [st0, newVal, reduceIte, ho, i64_succ (show i < 2 ^ 62 by omega)]
      refine (ih (i + 1) m' (by omega) (fun m2 h2 => hT m2 (hu.then0 h2))).mono fun v2 m2 ⟨⟨r, g1, g2⟩, g3⟩ => ⟨⟨r, g1, ?_⟩, hu.then0 g3⟩
      rw [g2, hdrop]; simp only [anyOdd, List.any_cons, ho, Bool.false_or]

theorem contains_ok {L : List Va} {sv : Value} {m : Mem} (hL : L.length ≤ 2 ^ 40) (hT : TSl encVa m sv L) (hb : ∀ b ∈ blkOf sv, b < m.next) :
    W (Call S1 tab 69 [sv, .func (.func 70) #[] #[]] m) fun v m' => v = .bool (anyOdd L) ∧ Upd [] m m' := by
  rw [C69, C81]
  simp -implicitDefEqProofs only [st0, newVal, reduceIte, hT.len]
  refine W.bind (idx_loop hL L.length 0 m (by omega) (fun m' h => hT.upd h (fun b hh => ⟨hb b hh, by simp⟩))) fun v m' ⟨⟨r, h1, h2⟩, h3⟩ => ?_
  subst h1
  simp -implicitDefEqProofs only [st0, newVal, reduceIte]
  refine ⟨?_, h3⟩
  rw [List.drop_zero] at h2
  cases ha : anyOdd L with
  | true => simp [h2.2 ha]
  | false =>
    have : ¬ (0 ≤ r) := fun h => by rw [h2.1 h] at ha; cases ha
    simp [this]

theorem afill_bb : afill [.int .u8 0, .int .u8 0] [(0, 1, .int .u8 0), (1, 1, .int .u8 1)] = some (encB.flat [0, 1]) := by rfl
theorem afill_b1 : afill [.int .u8 0] [(0, 1, .int .u8 1)] = some (encB.flat [1]) := by rfl
theorem afill_b2 : afill [.int .u8 0] [(0, 1, .int .u8 2)] = some (encB.flat [2]) := by rfl

theorem keys_loop {L : List Va} {sv : Value} (hL : L.length ≤ 1000) (hs : ∀ v ∈ L, v.s.length ≤ 67108864) : ∀ (d i : Nat) (m : Mem) (v : Value) (l : List UInt8), i + d = L.length → (∀ m', Upd (blkOf v) m m' → TSl encVa m' sv L) → Globs m →
    (∀ b ∈ blkOf v, b ∉ blkOf sv ∧ 4 ≤ b) → (∀ b ∈ blkOf sv, b < m.next) → TAp encB 5 m v l → l.length ≤ i * 2 ^ 29 →
    W (P49_0 v sv (.int .i64 (L.length : Int)) (.int .i64 (i : Int)) m) fun r m' => (∃ s, r = .tuple #[str s, .int .i64 0]) ∧ Upd (blkOf v) m m' := by
  intro d
  induction d with
  | zero =>
    intro i m v l hd hT hg hb hsb h hl
    obtain rfl : i = L.length := by omega
    rw [P49_0_eq]
    simp -implicitDefEqProofs only [st0, newVal, reduceIte, Int.lt_irrefl, b2s_ok h.tsl]
    exact ⟨⟨l, rfl⟩, Upd.refl _ _⟩
  | succ d ih =>
    intro i m v l hd hT hg hb hsb h hl
    have hi : i < L.length := by omega
    have hlt : (i : Int) < (L.length : Int) := by omega
    have hx : L[i]? = some L[i] := List.getElem?_eq_getElem hi
    have hxs := hs _ (List.getElem_mem hi)
    have hil : i * 2 ^ 29 ≤ 1000 * 2 ^ 29 := Nat.mul_le_mul_right _ (by omega)
    have hi1 : (i + 1) * 2 ^ 29 = i * 2 ^ 29 + 2 ^ 29 := by omega
    generalize L[i] = x at hx hxs
    obtain ⟨b, off, p1, p2⟩ := (hT m (Upd.refl _ _)).at .i64 hx
    have p1 : runIndexS 3 sv (.int .i64 (i : Int)) = _ := p1
    have p2 : runLoadN 3 (.pointer (some ⟨b, off, none⟩)) m = _ := (p2 m (hT m (Upd.refl _ _))).1
    rw [P49_0_eq]
    simp -implicitDefEqProofs only [st0, newVal, reduceIte, hlt, p1, p2]
    refine W.bindO (store_whole (n := 3) (Mem.get_add_self _ _) rfl rfl rfl) ?_
    rw [cells_agg]
    generalize hm6 : ((m.add ⟨.cells [.int .i64 0, .int .i64 0, .string ⟨#[]⟩] 35, false, none⟩).put m.next ⟨.cells (encVa.cells x) 35, false, none⟩) = m6
    have u6 : Upd [] m m6 := hm6 ▸ (Upd.add [] m _).put' _ (.inr (Nat.le_refl _))
    have n6 : m6.next = m.next + 1 := by rw [← hm6]; rfl
    have g6 : m6.get m.next = some ⟨.cells (encVa.cells x) 35, false, none⟩ := by rw [← hm6, Mem.get_put_self]
    have h6 : TAp encB 5 m6 v l := h.upd0 u6
    have hvlt := h.lt
    have f : ∀ k, runFieldAddr k (.pointer (some ⟨m.next, 0, none⟩)) = some (.pointer (some ⟨m.next, 0 + k, none⟩)) := fun k => rfl
    -- where the copy lies, whatever grows
    have keep : ∀ {fp : List Nat} {m' : Mem}, Upd fp m6 m' → m.next ∉ fp → m'.get m.next = some ⟨.cells (encVa.cells x) 35, false, none⟩ := fun hu hn => by rw [hu.same _ (by omega) hn]; exact g6
    have nov : m.next ∉ blkOf v := fun hm => by have := hvlt _ hm; omega
    have fin : ∀ {v' : Value} {m' : Mem} {l' : List UInt8}, Upd (blkOf v) m6 m' → (∀ b ∈ blkOf v', b ∈ blkOf v ∨ m6.next ≤ b) → TAp encB 5 m' v' l' → l'.length ≤ l.length + 2 ^ 29 →
        W (P49_0 v' sv (.int .i64 (L.length : Int)) (.int .i64 ((i + 1 : Nat) : Int)) m') fun r m' => (∃ s, r = .tuple #[str s, .int .i64 0]) ∧ Upd (blkOf v) m m' := by
      intro v' m' l' hu hv' h' hl'
      have hu0 : Upd (blkOf v) m m' := u6.nil'.trans hu
      refine (ih (i + 1) m' v' l' (by omega) (fun m2 h2 => hT m2 (hu0.then' h2 fun b hb => ?_)) (hg.upd hu0 (fun b hm => (hb b hm).2)) (fun c hc => ?_) (fun c hc => Nat.lt_of_lt_of_le (hsb c hc) hu0.next) h' (by omega)).mono fun r m2 ⟨q1, q2⟩ => ⟨q1, hu0.then' q2 fun b hb => ?_⟩
      · rcases hv' b hb with q | q
        · exact .inl q
        · exact .inr (by omega)
      · rcases hv' c hc with q | q
        · exact hb c q
        · have := hg.low
          exact ⟨fun hm => by have := hsb c hm; omega, by omega⟩
      · rcases hv' b hb with q | q
        · exact .inl q
        · exact .inr (by omega)
    simp -implicitDefEqProofs only [f, load_at g6 (show (encVa.cells x)[0 + 0]? = some (.int .i64 x.k) from rfl), st0, newVal, reduceIte]
    by_cases hk : x.k = 1
    · simp -implicitDefEqProofs only [st0, newVal, reduceIte, hk, afill_b1, f]
      refine app_new (E := encB) [1] (by decide) h6 (by simp; omega) fun v' m' q1 q2 q3 => ?_
      have g7 := keep q2 nov
      obtain ⟨c1, hc1, e1⟩ := convu x.n
      obtain ⟨c2, hc2, e2⟩ := xor_u64 (c1 : Int) 9223372036854775808
      simp -implicitDefEqProofs only [load_at g7 (show (encVa.cells x)[0 + 1]? = some (.int .i64 x.n) from rfl), st0, newVal, reduceIte, e1, e2]
      refine W.bind (num_ok (k := 8) hc2 (by omega) (by omega) q1 (by simp; omega)) fun v2 m2 ⟨r1, r2, r3⟩ => ?_
      refine chk1 (fun M hM => ?_) (by simp) ?_
      · have e : (encVa.cells x)[0 + 1]? = some (.int .i64 x.n) := rfl
        simp only [List.mem_cons, List.not_mem_nil, or_false] at hM
        have nov' : m.next ∉ blkOf v' := fun hm => by
          rcases q3 _ hm with q | q
          · exact nov q
          · omega
        rcases hM with rfl | rfl | rfl | rfl
        · exact load_at g6 e
        · exact load_at (keep (fp := []) (Upd.add _ _ _) (by simp)) e
        · exact load_at g7 e
        · exact load_at (by rw [r2.same _ (by have := q2.next; omega) nov']; exact g7) e
      · simp -implicitDefEqProofs only [st0, newVal, reduceIte, i64_succ (show i < 2 ^ 62 by omega)]
        refine fin (q2.then' r2 q3) (fun c hc => ?_) r1 (by simp only [List.length_append, List.length_cons, List.length_nil, be_length]; omega)
        rcases r3 c hc with q | q
        · exact q3 c q
        · exact .inr (Nat.le_trans q2.next q)
    · simp -implicitDefEqProofs only [st0, newVal, reduceIte, hk, afill_b2, f]
      refine app_new (E := encB) [2] (by decide) h6 (by simp; omega) fun v' m' q1 q2 q3 => ?_
      have g7 := keep q2 nov
      have nov' : m.next ∉ blkOf v' := fun hm => by
        rcases q3 _ hm with q | q
        · exact nov q
        · omega
      have hg7 : Globs m' := (hg.upd0 u6).upd q2 (fun b hm => (hb b hm).2)
      simp -implicitDefEqProofs only [load_at g7 (show (encVa.cells x)[0 + 2]? = some (str x.s) from rfl), st0, newVal, reduceIte, repl_ok hg7 hxs]
      have hrl := repl_len x.s
      refine app_src (E := encB) (Lib.replaceAll x.s [0] [0, 255]) (by decide) q1 (src_str _ _) (by simp; omega) fun v2 m2 r1 r2 r3 => ?_
      refine chk1 (fun M hM => ?_) (by simp) ?_
      · have e : (encVa.cells x)[0 + 2]? = some (str x.s) := rfl
        simp only [List.mem_cons, List.not_mem_nil, or_false] at hM
        rcases hM with rfl | rfl | rfl | rfl | rfl
        · exact load_at g6 e
        · exact load_at (keep (fp := []) (Upd.add _ _ _) (by simp)) e
        · exact load_at g7 e
        · exact load_at g7 e
        · exact load_at (by rw [r2.same _ (by have := q2.next; omega) nov']; exact g7) e
      · simp -implicitDefEqProofs only [st0, newVal, reduceIte, afill_bb]
        refine app_new (E := encB) [0, 1] (by decide) r1 (by simp; omega) fun v3 m3 s1 s2 s3 => ?_
        simp -implicitDefEqProofs only [st0, newVal, reduceIte, i64_succ (show i < 2 ^ 62 by omega)]
        have hr3 : ∀ c ∈ blkOf v2, c ∈ blkOf v ∨ m6.next ≤ c := fun c hc => by
          rcases r3 c hc with q | q
          · exact q3 c q
          · exact .inr (Nat.le_trans q2.next q)
        have hq2 : Upd (blkOf v) m6 m2 := q2.then' r2 q3
        refine fin (hq2.then' s2 hr3) (fun c hc => ?_) s1 (by simp only [List.length_append, List.length_cons, List.length_nil]; omega)
        rcases s3 c hc with q | q
        · exact hr3 c q
        · exact .inr (Nat.le_trans hq2.next q)

/-- keys.Write: some bytes, or an error. -/
theorem keys_ok {L : List Va} {sv : Value} {m : Mem} (hL : L.length ≤ 1000) (hs : ∀ v ∈ L, v.s.length ≤ 67108864) (hT : TSl encVa m sv L) (hb : ∀ b ∈ blkOf sv, b < m.next) (hg : Globs m) :
    W (Call S1 tab 49 [sv] m) fun r m' => (∃ s, r = .tuple #[str s, .int .i64 (if anyOdd L = true then 6 else 0)]) ∧ Upd [] m m' := by
  rw [C49]
  refine W.bind (contains_ok (by omega) hT hb) fun v m' ⟨hv, hu⟩ => ?_
  subst hv
  cases ha : anyOdd L with
  | true =>
    simp -implicitDefEqProofs only [st0, newVal, reduceIte, ha]
    exact ⟨⟨[], rfl⟩, hu⟩
  | false =>
    have hT' := hT.upd hu (fun b hh => ⟨hb b hh, by simp⟩)
    simp -implicitDefEqProofs only [st0, newVal, reduceIte, ha, hT'.len]
    refine (keys_loop (sv := sv) hL hs L.length 0 m' (.slice none 0 0) [] (by omega) (fun m2 h2 => hT'.upd h2 (fun b hh => ⟨Nat.lt_of_lt_of_le (hb b hh) hu.next, by simp [blkOf]⟩)) (hg.upd0 hu) (fun b hh => by simp [blkOf] at hh) (fun b hh => Nat.lt_of_lt_of_le (hb b hh) hu.next) (TAp.nil _) (by simp)).mono fun r m2 ⟨q1, q2⟩ => ⟨q1, hu.then0 ?_⟩
    exact q2
end Go.Fx.Tryz
/- code.right, code.put, code.Write. -/
namespace Go.Fx.Tryz
open Go Go.Fx
set_option linter.unusedSimpArgs false
set_option linter.unusedVariables false

theorem load_part {m : Mem} {b : Nat} {c : List Value} {e : TypeId} {ro : Bool} {lo : Option Nat} {o n : Nat} (hb : m.get b = some ⟨.cells c e, ro, lo⟩) (hc : o + n ≤ c.length) : runLoadN n (.pointer (some ⟨b, o, none⟩)) m = some (.agg ((c.drop o).take n).toArray) := by
  simp [runLoadN, asPtr, cellsAt_of_get hb, hc]

def fitB (x : Int) : Bool := decide (0 ≤ x) && decide (x < 256)
def argsOk (n : Int) : Nat → List Int → Bool
  | _, [] => true
  | k, x :: r => fitB x && (decide ((k : Int) < n) || decide (x = 0)) && argsOk n (k + 1) r
def zeroVa : Va := ⟨0, 0, []⟩
def tailOk (i : In) : Bool := if i.op = 1 then !oddV i.v && decide (i.s.length ≤ 10) else decide (i.v = zeroVa)
/-- May an instruction be? -/
def rightB (i : In) : Bool := (opn i.op).2 && argsOk (opn i.op).1 0 [i.a, i.b, i.c] && tailOk i

abbrev eqVa : EqD := .st [(0, 1, false, .sc .int), (1, 1, false, .sc .int), (2, 1, false, .sc .string)]
theorem eq_va (v w : Va) : runEq false eqVa (.agg (encVa.cells v).toArray) (.agg (encVa.cells w).toArray) = some (.bool (decide (v = w))) := by
  obtain ⟨a, b, s⟩ := v
  obtain ⟨a', b', s'⟩ := w
  have hs : ((⟨s.toArray⟩ : ByteArray) == ⟨s'.toArray⟩) = decide (s = s') := by
    have : ((⟨s.toArray⟩ : ByteArray) == ⟨s'.toArray⟩) = (s.toArray == s'.toArray) := rfl
    rw [this]
    by_cases h : s = s' <;> simp [h]
  have ha : (a == a') = decide (a = a') := by by_cases h : a = a' <;> simp [h]
  have hb : (b == b') = decide (b = b') := by by_cases h : b = b' <;> simp [h]
  simp only [runEq, eqVa, encVa, aeqD, aeqFs, partOf, Bool.false_eq_true, if_false, List.getElem?_toArray, List.getElem?_cons_zero, List.getElem?_cons_succ, aeq1, if_true, hs, ha, hb]
  by_cases h1 : a = a'
  · by_cases h2 : b = b'
    · by_cases h3 : s = s' <;> simp [h1, h2, h3]
    · simp only [h1, h2, decide_true, decide_false, Option.map_some, Va.mk.injEq, false_and, and_false]
  · simp only [h1, decide_false, Option.map_some, Va.mk.injEq, false_and]

theorem right_tail {i : In} (hi : i.Ok) {b : Nat} {m0 m : Mem} (hm : Upd [] m0 m) (hb : b < m0.next) (hg : Globs m) (h : m0.get b = some ⟨.cells (encIn.cells i) 37, false, none⟩) :
    W (P28_1 (.pointer (some ⟨b, 0, none⟩)) m) fun r m' => r = .bool (tailOk i) ∧ Upd [] m m' := by
  have f : ∀ k o, runFieldAddr k (.pointer (some ⟨b, o, none⟩)) = some (.pointer (some ⟨b, o + k, none⟩)) := fun k o => rfl
  have hget : ∀ {m'}, Upd [] m m' → m'.get b = some ⟨.cells (encIn.cells i) 37, false, none⟩ := fun hu => by
    rw [(hm.then0 hu).same b hb (by simp)]; exact h
  have h0 := hget (Upd.refl _ m)
  have hval : runLoadN 3 (.pointer (some ⟨b, 0 + 4, none⟩)) m = some (.agg (encVa.cells i.v).toArray) := load_part h0 (by simp [encIn])
  rw [P28_1_eq]
  unfold tailOk
  by_cases hop : i.op = 1
  · simp -implicitDefEqProofs only [st0, newVal, reduceIte, f, load_at h0 (show (encIn.cells i)[0 + 0]? = some (.int .i64 i.op) from rfl), hop, hval]
    have hfill : afill [.int .i64 0, .int .i64 0, .string ⟨#[]⟩] [(0, 3, Value.agg (encVa.cells i.v).toArray)] = some (encVa.flat [i.v]) := by kernel_rfl
    refine W.bindO hfill ?_
    refine W_nws.2 ?_
    have hfr := (TAp.fresh (E := encVa) (e := 35) m [i.v]).tsl
    have hu1 : Upd [] m (m.add ⟨.cells (encVa.flat [i.v]) 35, false, none⟩) := Upd.add _ _ _
    refine W.bind (keys_ok (L := [i.v]) (by simp) (fun v hv => by simp at hv; subst hv; exact hi.s) hfr (fun b hb => by simp [blkOf] at hb; subst hb; simp) (hg.upd0 hu1)) fun r m' ⟨⟨s, hr⟩, hu⟩ => ?_
    subst hr
    have hu2 := hu1.then0 hu
    have hodd : anyOdd [i.v] = oddV i.v := by simp [anyOdd]
    have hl := load_at (hget hu2) (show (encIn.cells i)[0 + 4 + 2]? = some (str i.s) from rfl)
    cases ho : oddV i.v with
    | true =>
      have e1 : runExtract 1 (.tuple #[str s, .int .i64 6]) = some (.int .i64 6) := rfl
      have e0 : runExtract 0 (.tuple #[str s, .int .i64 6]) = some (str s) := rfl
      simp -implicitDefEqProofs only [st0, newVal, reduceIte, hodd, ho, e0, e1, show ¬ (6 : Int) = 0 by decide]
      exact ⟨rfl, hu2⟩
    | false =>
      have e1 : runExtract 1 (.tuple #[str s, .int .i64 0]) = some (.int .i64 0) := rfl
      have e0 : runExtract 0 (.tuple #[str s, .int .i64 0]) = some (str s) := rfl
      simp -implicitDefEqProofs only [st0, newVal, reduceIte, hodd, ho, e0, e1, f, hl, len_str]
      refine ⟨?_, hu2⟩
      congr 1
      simp only [Bool.not_false, Bool.true_and]
      congr 1
      apply propext
      omega
  · have hz : afill [.int .i64 0, .int .i64 0, .string ⟨#[]⟩] [] = some (encVa.cells zeroVa) := rfl
    simp -implicitDefEqProofs only [st0, newVal, reduceIte, f, load_at h0 (show (encIn.cells i)[0 + 0]? = some (.int .i64 i.op) from rfl), hop, hval, hz, eq_va]
    exact ⟨trivial, Upd.refl _ _⟩

theorem right_loop {i : In} (hi : i.Ok) {b : Nat} {m0 : Mem} (hb : b < m0.next) (h : m0.get b = some ⟨.cells (encIn.cells i) 37, false, none⟩) {n : Int} {sv : Value} {m : Mem} (hg : Globs m) (hm : Upd [] m0 m) (hT : TSl (encInt .i64) m sv [i.a, i.b, i.c]) :
    ∀ (d k : Nat), k + d = 3 → W (P28_0 (.pointer (some ⟨b, 0, none⟩)) (.int .i64 n) sv (.int .i64 3) (.int .i64 (k : Int)) m) fun r m' => r = .bool (argsOk n k ([i.a, i.b, i.c].drop k) && tailOk i) ∧ Upd [] m m' := by
  intro d
  induction d with
  | zero =>
    intro k hk
    obtain rfl : k = 3 := by omega
    rw [P28_0_eq]
    have : ¬ (((3 : Nat) : Int) < 3) := by decide
    simp -implicitDefEqProofs only [st0, newVal, reduceIte, this]
    refine (right_tail hi hm hb hg h).mono fun r m' ⟨q1, q2⟩ => ⟨by rw [q1]; simp [argsOk], q2⟩
  | succ d ih =>
    intro k hk
    have hk3 : k < 3 := by omega
    have hlt : (k : Int) < 3 := by omega
    have hk' : k < [i.a, i.b, i.c].length := hk3
    have hx : [i.a, i.b, i.c][k]? = some [i.a, i.b, i.c][k] := List.getElem?_eq_getElem hk'
    have hxw : I64 [i.a, i.b, i.c][k] := by
      match k, hk' with
      | 0, _ => exact hi.a
      | 1, _ => exact hi.b
      | 2, _ => exact hi.c
    have hdrop : [i.a, i.b, i.c].drop k = [i.a, i.b, i.c][k] :: [i.a, i.b, i.c].drop (k + 1) := List.drop_eq_getElem_cons hk'
    rw [hdrop]
    generalize [i.a, i.b, i.c][k] = x at hx hxw
    obtain ⟨p, p1, _, p2⟩ := hT.index .i64 hx
    have p1 : runIndexS 1 sv (.int .i64 (k : Int)) = some p := p1
    have p2 : runLoad1 p m = some (.int .i64 x) := p2 _ rfl
    have ihk := ih (k + 1) (by omega)
    have hs := i64_succ (show k < 2 ^ 62 by omega)
    rw [P28_0_eq]
    by_cases h0 : x < 0
    · have : fitB x = false := by simp [fitB]; omega
      simp -implicitDefEqProofs only [st0, newVal, reduceIte, hlt, p1, p2, h0, argsOk, this, Bool.false_and]
      exact ⟨trivial, Upd.refl _ _⟩
    · have hcv := conv_u64 (a := x) .i64 (by omega) (by have := hxw.2; omega)
      have hf := fits1_ok (m := m) x (by omega) (by have := hxw.2; omega)
      by_cases h1 : x < 256
      · have hfit : fitB x = true := by simp [fitB, h1]; omega
        by_cases h2 : n ≤ (k : Int)
        · have hkn : ¬ ((k : Int) < n) := by omega
          by_cases h3 : x = 0
          · have h3' := eq_true h3
            simp -implicitDefEqProofs only [st0, newVal, reduceIte, hlt, p1, p2, h0, hcv, hf, h1, h2, h3', argsOk, hs]
            simp only [hfit, hkn, decide_false, Bool.false_or, decide_true, Bool.and_true, Bool.true_and]
            exact ihk
          · simp -implicitDefEqProofs only [st0, newVal, reduceIte, hlt, p1, p2, h0, hcv, hf, h1, h2, h3, argsOk, hfit, hkn, Bool.or_self, Bool.and_false, Bool.false_and]
            exact ⟨trivial, Upd.refl _ _⟩
        · have hkn : (k : Int) < n := by omega
          simp -implicitDefEqProofs only [st0, newVal, reduceIte, hlt, p1, p2, h0, hcv, hf, h1, h2, argsOk, hs]
          simp only [hfit, hkn, decide_true, Bool.true_or, Bool.and_true, Bool.true_and]
          exact ihk
      · have hfit : fitB x = false := by simp [fitB, h1]
        simp -implicitDefEqProofs only [st0, newVal, reduceIte, hlt, p1, p2, h0, hcv, hf, h1, argsOk, hfit, Bool.false_and]
        exact ⟨trivial, Upd.refl _ _⟩

theorem right_ok {i : In} (hi : i.Ok) {m : Mem} (hg : Globs m) : W (Call S1 tab 28 [.agg (encIn.cells i).toArray] m) fun r m' => r = .bool (rightB i) ∧ Upd [] m m' := by
  rw [C28]
  refine W_nw.2 ?_
  rw [cells_agg]
  have f : ∀ k, runFieldAddr k (.pointer (some ⟨m.next, 0, none⟩)) = some (.pointer (some ⟨m.next, 0 + k, none⟩)) := fun k => rfl
  generalize hm1 : m.add ⟨.cells (encIn.cells i) 37, false, none⟩ = m1
  have hu1 : Upd [] m m1 := hm1 ▸ Upd.add _ _ _
  have hn1 : m1.next = m.next + 1 := by rw [← hm1]; rfl
  have hg1 : m1.get m.next = some ⟨.cells (encIn.cells i) 37, false, none⟩ := by rw [← hm1]; exact Mem.get_add_self ..
  simp -implicitDefEqProofs only [st0, newVal, reduceIte, f, load_at hg1 (show (encIn.cells i)[0 + 0]? = some (.int .i64 i.op) from rfl)]
  refine W.bind (Operands_ok hi.op m1) fun v m2 ⟨hv, hu2⟩ => ?_
  subst hv
  have e0 : runExtract 0 (.tuple #[.int .i64 (opn i.op).1, .bool (opn i.op).2]) = some (.int .i64 (opn i.op).1) := rfl
  have e1 : runExtract 1 (.tuple #[.int .i64 (opn i.op).1, .bool (opn i.op).2]) = some (.bool (opn i.op).2) := rfl
  unfold rightB
  cases ho : (opn i.op).2 with
  | false =>
    rw [ho] at e0 e1
    simp -implicitDefEqProofs only [st0, newVal, reduceIte, e0, e1, ho, Bool.false_and]
    exact ⟨trivial, hu1.then0 hu2⟩
  | true =>
    have hg2 : m2.get m.next = some ⟨.cells (encIn.cells i) 37, false, none⟩ := by rw [hu2.same _ (by omega) (by simp)]; exact hg1
    simp -implicitDefEqProofs only [st0, newVal, reduceIte, e0, e1, ho, load_whole (n := 7) hg2 rfl]
    refine W.bind (list_ok i m2) fun v m3 ⟨hT, hu3, hb3⟩ => ?_
    have hlen : runLenSlice v = some (.int .i64 3) := hT.len
    simp -implicitDefEqProofs only [st0, newVal, reduceIte, hlen]
    refine (right_loop hi (m0 := m1) (by omega) hg1 ((hg.upd0 (hu1.then0 hu2)).upd0 hu3) (hu2.then0 hu3) hT 3 0 rfl).mono fun r m4 ⟨q1, q2⟩ => ⟨?_, ((hu1.then0 hu2).then0 hu3).then0 q2⟩
    rw [q1]
    simp only [List.drop_zero, Bool.true_and]

/- code.put: some bytes more -/
theorem convu8 (x : Int) : ∃ b : UInt8, runConv .u8 (.int .i64 x) = some (.int .u8 (b.toNat : Int)) := by
  have h1 : 0 ≤ x % 2 ^ 8 := Int.emod_nonneg _ (by decide)
  have h2 : x % 2 ^ 8 < 2 ^ 8 := Int.emod_lt_of_pos _ (by decide)
  obtain ⟨c, hc⟩ := Int.eq_ofNat_of_zero_le h1
  refine ⟨UInt8.ofNat c, ?_⟩
  simp only [runConv, IntKind.wrap, IntKind.signed, IntKind.bits, Bool.false_and, Bool.false_eq_true, if_false]
  rw [hc]
  congr 2
  have : c < 256 := by omega
  simp [Nat.mod_eq_of_lt this]

theorem put_loop {xs : List Int} {sv p : Value} {m0 : Mem} {B : Nat} (hB : B ≤ 2 ^ 36) (hx : xs.length ≤ 3) : ∀ (d k : Nat) (m : Mem) (v : Value) (l : List UInt8), k + d = xs.length → (∀ m', Upd (blkOf v) m m' → TSl (encInt .i64) m' sv xs) → (∀ b ∈ blkOf v, b ∉ blkOf sv) → (∀ b ∈ blkOf sv, b < m.next) → TAp encB 5 m v l → l.length ≤ B + k →
    ∀ {Q : Value → Mem → Prop}, (∀ v' m' l', TAp encB 5 m' v' l' → l'.length ≤ B + 3 → Upd (blkOf v) m m' → (∀ b ∈ blkOf v', b ∈ blkOf v ∨ m.next ≤ b) → W (P29_1 v' p m') Q) →
    W (P29_0 v p sv (.int .i64 (xs.length : Int)) (.int .i64 (k : Int)) m) Q := by
  intro d
  induction d with
  | zero =>
    intro k m v l hk hT hb hsb h hl Q hK
    obtain rfl : k = xs.length := by omega
    rw [P29_0_eq]
    simp -implicitDefEqProofs only [st0, newVal, reduceIte, Int.lt_irrefl]
    exact hK v m l h (by omega) (Upd.refl _ _) (fun b hb => .inl hb)
  | succ d ih =>
    intro k m v l hk hT hb hsb h hl Q hK
    have hk' : k < xs.length := by omega
    have hlt : (k : Int) < (xs.length : Int) := by omega
    have hx0 : xs[k]? = some xs[k] := List.getElem?_eq_getElem hk'
    obtain ⟨q, p1, _, p2⟩ := (hT m (Upd.refl _ _)).index .i64 hx0
    have p1 : runIndexS 1 sv (.int .i64 (k : Int)) = some q := p1
    have p2 : runLoad1 q m = some (.int .i64 xs[k]) := p2 _ rfl
    obtain ⟨c, hc⟩ := convu8 xs[k]
    rw [P29_0_eq]
    simp -implicitDefEqProofs only [st0, newVal, reduceIte, hlt, p1, p2, hc, afill_b]
    refine app_new (E := encB) [c] (by decide) h (by simp; omega) fun v' m' g1 g2 g3 => ?_
    simp -implicitDefEqProofs only [st0, newVal, reduceIte, i64_succ (show k < 2 ^ 62 by omega)]
    refine ih (k + 1) m' v' _ (by omega) (fun m2 h2 => hT m2 (g2.then' h2 g3)) (fun b hbv hbs => ?_) (fun b hbs => Nat.lt_of_lt_of_le (hsb b hbs) g2.next) g1 (by simp; omega) fun v2 m2 l2 q1 q2 q3 q4 => hK v2 m2 l2 q1 q2 (g2.then' q3 g3) fun b hb2 => ?_
    · rcases g3 b hbv with q | q
      · exact hb b q hbs
      · have := hsb b hbs; omega
    · rcases q4 b hb2 with q | q
      · exact g3 b q
      · exact .inr (Nat.le_trans g2.next q)

theorem put_ok {i : In} (hi : i.Ok) {m : Mem} {v : Value} {l : List UInt8} (h : TAp encB 5 m v l) (hl : l.length + 1 ≤ 2 ^ 36) (hr : (opn i.op).2 = true) :
    W (Call S1 tab 29 [v, .agg (encIn.cells i).toArray] m) fun v' m' => (∃ l', TAp encB 5 m' v' l' ∧ l'.length ≤ l.length + 300) ∧ Upd (blkOf v) m m' ∧ ∀ b ∈ blkOf v', b ∈ blkOf v ∨ m.next ≤ b := by
  rw [C29]
  refine W_nw.2 ?_
  rw [cells_agg]
  have f : ∀ k o, runFieldAddr k (.pointer (some ⟨m.next, o, none⟩)) = some (.pointer (some ⟨m.next, o + k, none⟩)) := fun k o => rfl
  generalize hm1 : m.add ⟨.cells (encIn.cells i) 37, false, none⟩ = m1
  have hu1 : Upd [] m m1 := hm1 ▸ Upd.add _ _ _
  have hn1 : m1.next = m.next + 1 := by rw [← hm1]; rfl
  have hg1 : m1.get m.next = some ⟨.cells (encIn.cells i) 37, false, none⟩ := by rw [← hm1]; exact Mem.get_add_self ..
  have hvlt := h.lt
  have nov : m.next ∉ blkOf v := fun hm => by have := hvlt _ hm; omega
  simp -implicitDefEqProofs only [st0, newVal, reduceIte, f, load_at hg1 (show (encIn.cells i)[0 + 0]? = some (.int .i64 i.op) from rfl)]
  refine W.bind (Operands_ok hi.op m1) fun w m2 ⟨hw, hu2⟩ => ?_
  subst hw
  have hg2 : m2.get m.next = some ⟨.cells (encIn.cells i) 37, false, none⟩ := by rw [hu2.same _ (by omega) (by simp)]; exact hg1
  obtain ⟨n, hn, hn3⟩ := opn_nat i.op
  have e0 : runExtract 0 (.tuple #[.int .i64 (opn i.op).1, .bool (opn i.op).2]) = some (.int .i64 (opn i.op).1) := rfl
  have e1 : runExtract 1 (.tuple #[.int .i64 (opn i.op).1, .bool (opn i.op).2]) = some (.bool (opn i.op).2) := rfl
  obtain ⟨c, hc⟩ := convu8 i.op
  rw [hn] at e0 e1 ⊢
  simp -implicitDefEqProofs only [st0, newVal, reduceIte, e0, e1, f, load_at hg2 (show (encIn.cells i)[0 + 0]? = some (.int .i64 i.op) from rfl), hc, afill_b]
  have h2 : TAp encB 5 m2 v l := (h.upd0 hu1).upd0 hu2
  have hu12 := hu1.then0 hu2
  refine app_new (E := encB) [c] (by decide) h2 (by simp; omega) fun v' m3 g1 g2 g3 => ?_
  have hg3 : m3.get m.next = some ⟨.cells (encIn.cells i) 37, false, none⟩ := by rw [g2.same _ (by have := hu2.next; omega) nov]; exact hg2
  have nov' : m.next ∉ blkOf v' := fun hm => by
    rcases g3 _ hm with q | q
    · exact nov q
    · have := hu2.next; omega
  simp -implicitDefEqProofs only [st0, newVal, reduceIte, load_whole (n := 7) hg3 rfl]
  refine W.bind (list_ok i m3) fun lv m4 ⟨hT, hu4, hb4⟩ => ?_
  obtain ⟨sv, s1, s2, s3⟩ := hT.upto' (k := n) (by simpa using hn3)
  have s1 : ∀ m', runSliceS 1 lv none (some (.int .i64 (n : Int))) m' = some sv := s1
  have hlen : runLenSlice sv = some (.int .i64 (([i.a, i.b, i.c].take n).length : Int)) := s2.len
  simp -implicitDefEqProofs only [st0, newVal, reduceIte, s1, hlen]
  have hg4 : m4.get m.next = some ⟨.cells (encIn.cells i) 37, false, none⟩ := by rw [hu4.same _ (by have := hu2.next; have := g2.next; omega) (by simp)]; exact hg3
  have hsb : ∀ b ∈ blkOf sv, m3.next ≤ b ∧ b < m4.next := fun b hb => hb4 b (s3 ▸ hb)
  have h4 : TAp encB 5 m4 v' (l ++ [c]) := g1.upd0 hu4
  have hvd : ∀ b ∈ blkOf v', b ∉ blkOf sv := fun b hb hs => by have := g1.lt b hb; have := hsb b hs; omega
  have hall : Upd (blkOf v) m m4 := (hu12.nil'.then' g2 (fun b hb => .inl hb)).then0 hu4
  refine put_loop (m0 := m) (B := l.length + 1) hl (by simp; omega) ([i.a, i.b, i.c].take n).length 0 m4 v' _ (by omega) (fun m' h' => s2.upd h' (fun b hb => ⟨(hsb b hb).2, fun hm => hvd b hm hb⟩)) hvd (fun b hb => (hsb b hb).2) h4 (by simp only [List.length_append, List.length_cons, List.length_nil]; omega) fun v5 m5 l5 q1 q2 q3 q4 => ?_
  have hq4 : ∀ b ∈ blkOf v5, b ∈ blkOf v ∨ m.next ≤ b := fun b hb => by
    rcases q4 b hb with q | q
    · rcases g3 b q with q | q
      · exact .inl q
      · exact .inr (Nat.le_trans hu12.next q)
    · exact .inr (Nat.le_trans hall.next q)
  have hu5 : Upd (blkOf v) m m5 := hall.then' q3 (fun b hb => by
    rcases g3 b hb with q | q
    · exact .inl q
    · exact .inr (Nat.le_trans hu12.next q))
  have hg5 : m5.get m.next = some ⟨.cells (encIn.cells i) 37, false, none⟩ := by rw [q3.same _ (by have := hu2.next; have := g2.next; have := hu4.next; omega) nov']; exact hg4
  have nov5 : m.next ∉ blkOf v5 := fun hm => by
    rcases q4 _ hm with q | q
    · exact nov' q
    · have := hu2.next; have := g2.next; have := hu4.next; omega
  have hn5 : m.next < m5.next := by have := hu2.next; have := g2.next; have := hu4.next; have := q3.next; omega
  rw [P29_1_eq]
  by_cases hop : i.op = 1
  · by_cases hk : i.k = 1
    · simp -implicitDefEqProofs only [st0, newVal, reduceIte, f, load_at hg5 (show (encIn.cells i)[0 + 0]? = some (.int .i64 i.op) from rfl), hop, load_at hg5 (show (encIn.cells i)[0 + 4 + 0]? = some (.int .i64 i.k) from rfl), hk, afill_b1]
      refine app_new (E := encB) [1] (by decide) q1 (by simp; omega) fun v6 m6 r1 r2 r3 => ?_
      have hg6 : m6.get m.next = some ⟨.cells (encIn.cells i) 37, false, none⟩ := by rw [r2.same _ hn5 nov5]; exact hg5
      obtain ⟨c1, hc1, ec⟩ := convu i.n
      have el : (encIn.cells i)[0 + 4 + 1]? = some (.int .i64 i.n) := rfl
      simp -implicitDefEqProofs only [st0, newVal, reduceIte, f, load_at hg6 el, ec]
      refine W.bind (num_ok (k := 8) hc1 (by omega) (by omega) r1 (by simp; omega)) fun v7 m7 ⟨t1, t2, t3⟩ => ?_
      have nov6 : m.next ∉ blkOf v6 := fun hm => by
        rcases r3 _ hm with q | q
        · exact nov5 q
        · omega
      refine chk1 (fun M hM => ?_) (by simp) ?_
      · simp only [List.mem_cons, List.not_mem_nil, or_false] at hM
        rcases hM with rfl | rfl | rfl | rfl
        · exact load_at hg5 el
        · exact load_at (by rw [Mem.get_add_other _ _ hn5]; exact hg5) el
        · exact load_at hg6 el
        · exact load_at (by rw [t2.same _ (by have := r2.next; omega) nov6]; exact hg6) el
      · refine W_some.2 ⟨⟨_, t1, by simp only [List.length_append, List.length_cons, List.length_nil, be_length]; omega⟩, (hu5.then' r2 hq4).then' t2 (fun b hb => ?_), fun b hb => ?_⟩
        · rcases r3 b hb with q | q
          · exact hq4 b q
          · exact .inr (Nat.le_trans hu5.next q)
        · rcases t3 b hb with q | q
          · rcases r3 b q with q | q
            · exact hq4 b q
            · exact .inr (Nat.le_trans hu5.next q)
          · exact .inr (by have := hu5.next; have := r2.next; omega)
    · simp -implicitDefEqProofs only [st0, newVal, reduceIte, f, load_at hg5 (show (encIn.cells i)[0 + 0]? = some (.int .i64 i.op) from rfl), hop, load_at hg5 (show (encIn.cells i)[0 + 4 + 0]? = some (.int .i64 i.k) from rfl), hk, afill_b2]
      refine app_new (E := encB) [2] (by decide) q1 (by simp; omega) fun v6 m6 r1 r2 r3 => ?_
      have hg6 : m6.get m.next = some ⟨.cells (encIn.cells i) 37, false, none⟩ := by rw [r2.same _ hn5 nov5]; exact hg5
      have el : (encIn.cells i)[0 + 4 + 2]? = some (str i.s) := rfl
      simp -implicitDefEqProofs only [st0, newVal, reduceIte, f, load_at hg6 el]
      refine W.bind (pstr_ok r1 (by simp; omega) (by have := hi.s; omega)) fun v7 m7 ⟨t1, t2, t3⟩ => ?_
      have nov6 : m.next ∉ blkOf v6 := fun hm => by
        rcases r3 _ hm with q | q
        · exact nov5 q
        · omega
      refine chk1 (fun M hM => ?_) (by simp) ?_
      · simp only [List.mem_cons, List.not_mem_nil, or_false] at hM
        rcases hM with rfl | rfl | rfl | rfl
        · exact load_at hg5 el
        · exact load_at (by rw [Mem.get_add_other _ _ hn5]; exact hg5) el
        · exact load_at hg6 el
        · exact load_at (by rw [t2.same _ (by have := r2.next; omega) nov6]; exact hg6) el
      · refine W_some.2 ⟨⟨_, t1, by simp only [List.length_append, List.length_cons, List.length_nil, List.length_take]; omega⟩, (hu5.then' r2 hq4).then' t2 (fun b hb => ?_), fun b hb => ?_⟩
        · rcases r3 b hb with q | q
          · exact hq4 b q
          · exact .inr (Nat.le_trans hu5.next q)
        · rcases t3 b hb with q | q
          · rcases r3 b q with q | q
            · exact hq4 b q
            · exact .inr (Nat.le_trans hu5.next q)
          · exact .inr (by have := hu5.next; have := r2.next; omega)
  · simp -implicitDefEqProofs only [st0, newVal, reduceIte, f, load_at hg5 (show (encIn.cells i)[0 + 0]? = some (.int .i64 i.op) from rfl), hop]
    exact ⟨⟨l5, q1, by omega⟩, hu5, hq4⟩
end Go.Fx.Tryz
/- code.Write: which error there is. -/
namespace Go.Fx.Tryz
open Go Go.Fx
set_option linter.unusedSimpArgs false
set_option linter.unusedVariables false

/-- The error of a program: too long, a field that may not be, none. -/
def codeErr (l : List In) : Int := if 64 < l.length then 3 else if l.all rightB = true then 0 else 4

theorem rightB_opn {i : In} (h : rightB i = true) : (opn i.op).2 = true := by
  unfold rightB at h
  simp only [Bool.and_eq_true] at h
  exact h.1.1

theorem code_loop {L : List In} {sv : Value} (hL : L.length ≤ 64) (hok : ∀ x ∈ L, x.Ok) : ∀ (d i : Nat) (m : Mem) (v : Value) (l : List UInt8), i + d = L.length → (∀ m', Upd (blkOf v) m m' → TSl encIn m' sv L) → Globs m →
    (∀ b ∈ blkOf v, b ∉ blkOf sv ∧ 4 ≤ b) → (∀ b ∈ blkOf sv, b < m.next) → TAp encB 5 m v l → l.length ≤ i * 300 →
    W (P13_0 v sv (.int .i64 (L.length : Int)) (.int .i64 (i : Int)) m) fun r m' => (∃ s, r = .tuple #[str s, .int .i64 (if (L.drop i).all rightB = true then 0 else 4)]) ∧ Upd (blkOf v) m m' := by
  intro d
  induction d with
  | zero =>
    intro i m v l hd hT hg hb hsb h hl
    obtain rfl : i = L.length := by omega
    rw [P13_0_eq]
    simp -implicitDefEqProofs only [st0, newVal, reduceIte, Int.lt_irrefl, b2s_ok h.tsl]
    exact ⟨⟨l, by simp⟩, Upd.refl _ _⟩
  | succ d ih =>
    intro i m v l hd hT hg hb hsb h hl
    have hi : i < L.length := by omega
    have hlt : (i : Int) < (L.length : Int) := by omega
    have hx : L[i]? = some L[i] := List.getElem?_eq_getElem hi
    have hxs := hok _ (List.getElem_mem hi)
    have hdrop : L.drop i = L[i] :: L.drop (i + 1) := List.drop_eq_getElem_cons hi
    rw [hdrop]
    generalize L[i] = x at hx hxs
    obtain ⟨b, off, p1, p2⟩ := (hT m (Upd.refl _ _)).at .i64 hx
    have p1 : runIndexS 7 sv (.int .i64 (i : Int)) = _ := p1
    have p2 : runLoadN 7 (.pointer (some ⟨b, off, none⟩)) m = _ := (p2 m (hT m (Upd.refl _ _))).1
    rw [P13_0_eq]
    simp -implicitDefEqProofs only [st0, newVal, reduceIte, hlt, p1, p2]
    refine W.bindO (store_whole (n := 7) (Mem.get_add_self _ _) rfl rfl rfl) ?_
    rw [cells_agg]
    generalize hm6 : (Mem.put _ m.next ⟨.cells (encIn.cells x) 37, false, none⟩) = m6
    have u6 : Upd [] m m6 := hm6 ▸ (Upd.add [] m _).put' _ (.inr (Nat.le_refl _))
    have n6 : m6.next = m.next + 1 := by rw [← hm6]; rfl
    have g6 : m6.get m.next = some ⟨.cells (encIn.cells x) 37, false, none⟩ := by rw [← hm6, Mem.get_put_self]
    have h6 : TAp encB 5 m6 v l := h.upd0 u6
    have hvlt := h.lt
    simp -implicitDefEqProofs only [st0, newVal, reduceIte, load_whole (n := 7) g6 rfl]
    refine W.bind (right_ok hxs (hg.upd0 u6)) fun w m7 ⟨hw, u7⟩ => ?_
    subst hw
    have g7 : m7.get m.next = some ⟨.cells (encIn.cells x) 37, false, none⟩ := by rw [u7.same _ (by omega) (by simp)]; exact g6
    cases hr : rightB x with
    | false =>
      simp -implicitDefEqProofs only [st0, newVal, reduceIte, hr]
      exact ⟨⟨[], by simp [hr]⟩, (u6.then0 u7).nil'⟩
    | true =>
      simp -implicitDefEqProofs only [st0, newVal, reduceIte, hr, load_whole (n := 7) g7 rfl]
      have h7 := h6.upd0 u7
      refine W.bind (put_ok hxs h7 (by omega) (rightB_opn hr)) fun v' m8 ⟨⟨l', q1, q2⟩, q3, q4⟩ => ?_
      simp -implicitDefEqProofs only [st0, newVal, reduceIte, i64_succ (show i < 2 ^ 62 by omega)]
      have u17 := u6.then0 u7
      have hu0 : Upd (blkOf v) m m8 := u17.nil'.trans q3
      have hv' : ∀ b ∈ blkOf v', b ∈ blkOf v ∨ m.next ≤ b := fun b hb => by
        rcases q4 b hb with q | q
        · exact .inl q
        · exact .inr (Nat.le_trans u17.next q)
      refine (ih (i + 1) m8 v' l' (by omega) (fun m2 h2 => hT m2 (hu0.then' h2 hv')) (hg.upd hu0 (fun b hm => (hb b hm).2)) (fun c hc => ?_) (fun c hc => Nat.lt_of_lt_of_le (hsb c hc) hu0.next) q1 ?_).mono fun r m2 ⟨⟨s, q1⟩, q2⟩ => ⟨⟨s, by rw [q1]; simp [hr]⟩, hu0.then' q2 hv'⟩
      · rcases hv' c hc with q | q
        · exact hb c q
        · have := hg.low
          exact ⟨fun hm => by have := hsb c hm; omega, by omega⟩
      · omega

/-- code.Write. -/
theorem code_ok {L : List In} {sv : Value} {m : Mem} (hok : ∀ x ∈ L, x.Ok) (hlen : L.length ≤ 2 ^ 40) (hT : TSl encIn m sv L) (hb : ∀ b ∈ blkOf sv, b < m.next) (hg : Globs m) :
    W (Call S1 tab 13 [sv] m) fun r m' => (∃ s, r = .tuple #[str s, .int .i64 (codeErr L)]) ∧ Upd [] m m' := by
  rw [C13]
  unfold codeErr
  by_cases h : 64 < L.length
  · have : (64 : Int) < (L.length : Int) := by omega
    simp -implicitDefEqProofs only [st0, newVal, reduceIte, hT.len, this, h]
    exact ⟨⟨[], rfl⟩, Upd.refl _ _⟩
  · have : ¬ ((64 : Int) < (L.length : Int)) := by omega
    simp -implicitDefEqProofs only [st0, newVal, reduceIte, hT.len, this, h]
    exact code_loop (sv := sv) (by omega) hok L.length 0 m (.slice none 0 0) [] (by omega) (fun m2 h2 => hT.upd h2 (fun b hh => ⟨hb b hh, by simp [blkOf]⟩)) hg (fun b hh => by simp [blkOf] at hh) hb (TAp.nil _) (by simp)
end Go.Fx.Tryz
