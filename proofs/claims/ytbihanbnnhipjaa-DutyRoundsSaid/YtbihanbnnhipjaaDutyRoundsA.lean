/- Duty: rounds. -/
import Derived.Test.YtbihanbnnhipjaaDutyE
import Derived.Test.YtbihanbnnhipjaaDec
import Derived.Test.YtbihanbnnhipjaaFxW
namespace Go.Fx.Try
open Go Go.Fx
set_option linter.unusedSimpArgs false
set_option linter.unusedVariables false

/-- An operation: its kind and its number. -/
def encOp : Enc (Int × Int) := ⟨11, fun a => [.int .i64 a.1, .int .i64 0, .int .i64 0, .int .i64 0, .string ⟨#[]⟩, .int .i64 0, .int .i64 0, .string ⟨#[]⟩, .int .i64 a.2, .slice none 0 0, .int .i64 0], fun _ => rfl, fun _ => rfl⟩
abbrev z11 : List Value := [.int .i64 0, .int .i64 0, .int .i64 0, .int .i64 0, .string ⟨#[]⟩, .int .i64 0, .int .i64 0, .string ⟨#[]⟩, .int .i64 0, .slice none 0 0, .int .i64 0]
theorem osize : encOp.size = 11 := rfl
def clamp (x : Int) (h : Nat) : Nat := (min (max x 0) h).toNat
theorem clamp_eq (x : Int) (h : Nat) : (if (h : Int) < (if 0 > x then 0 else x) then (h : Int) else (if 0 > x then 0 else x)) = ((clamp x h : Nat) : Int) := by
  unfold clamp; split <;> split <;> omega
theorem clamp_le (x : Int) (h : Nat) : clamp x h ≤ h := by unfold clamp; omega
def runs (i : Nat) : List (Int × Int) := (List.range i).map fun k : Nat => ((4 : Int), (k : Int))
theorem runs_succ (i : Nat) : runs (i + 1) = runs i ++ [(4, (i : Int))] := by simp [runs, List.range_succ]
theorem runs_len (i : Nat) : (runs i).length = i := by simp [runs]
def round (f : Nat) : List (Int × Int) := (5, 1000000) :: runs f ++ [(6, 64), (7, 0)]
theorem round_len (f : Nat) : (round f).length = f + 3 := by simp [round, runs_len]
def rounds (n f : Nat) : List (Int × Int) := (List.replicate n (round f)).flatten
theorem rounds_len (n f : Nat) : (rounds n f).length = n * (f + 3) := by simp [rounds, round_len]

theorem fill_one (a b : Int) : afill z11 [(0, 1, .int .i64 a), (8, 1, .int .i64 b)] = some (encOp.cells (a, b)) := by kernel_rfl
theorem fill_ack : afill z11 [(0, 1, .int .i64 7)] = some (encOp.cells (7, 0)) := by kernel_rfl
theorem fill_agg (a : Int × Int) : afill z11 [(0, 11, Value.agg (encOp.cells a).toArray)] = some (encOp.cells a) := by kernel_rfl
theorem fill_two (a b : Int × Int) : afill (z11 ++ z11) [(0, 11, Value.agg (encOp.cells a).toArray), (11, 11, Value.agg (encOp.cells b).toArray)] = some (encOp.flat [a, b]) := by kernel_rfl
theorem fresh_src (m : Mem) (l : List (Int × Int)) : runSrc 11 (.slice (some ⟨m.next, 0, none⟩) l.length l.length) (m.add ⟨.cells (encOp.flat l) 82, false, none⟩) = some (l.length, encOp.flat l) := (TAp.fresh (E := encOp) (e := 82) m l).tsl.src

/-- One operation, or some, behind what there is. -/
theorem put_ops {m : Mem} {v : Value} {l : List (Int × Int)} (k : List (Int × Int)) (h : TAp encOp 82 m v l) (hn : l.length + k.length ≤ 2 ^ 30) {K : Value × Mem → O} {Q : Value → Mem → Prop}
    (hK : ∀ v' m', TAp encOp 82 m' v' (l ++ k) → Upd (blkOf v) m m' → (∀ b ∈ blkOf v', b ∈ blkOf v ∨ m.next ≤ b) → W (K (v', m')) Q) :
    W ((runSrc 11 (.slice (some ⟨m.next, 0, none⟩) k.length k.length) (m.add ⟨.cells (encOp.flat k) 82, false, none⟩)).bind fun p => (runAppend 82 11 120 v p.1 p.2 (m.add ⟨.cells (encOp.flat k) 82, false, none⟩)).bind K) Q := by
  rw [fresh_src]
  obtain ⟨v', m', h1, h2, h3, h4⟩ := (h.upd0 (Upd.add [] m ⟨.cells (encOp.flat k) 82, false, none⟩)).append (k := k) (eb := 120) (by decide) (by omega) (by omega)
  refine W.bindO rfl (W.bindO h1 (hK v' m' h2 (((Upd.add [] m _).nil').trans h3) fun b hb => ?_))
  rcases h4 b hb with h | h
  · exact .inl h
  · exact .inr (by simp at h; omega)

/- a product of two words -/
theorem and_mask (x : Nat) (h : x < 2 ^ 32) : arith .and (.int .u64 (x : Int)) (.int .u64 4294967295) = some (.int .u64 x) := by
  have h1 : (BitVec.ofInt 64 (x : Int) &&& BitVec.ofInt 64 4294967295).toNat = x := by
    have e1 : (BitVec.ofInt 64 (x : Int)) = BitVec.ofNat 64 x := by simp
    have e2 : (BitVec.ofInt 64 4294967295) = BitVec.ofNat 64 (2 ^ 32 - 1) := by decide
    rw [e1, e2, BitVec.toNat_and, BitVec.toNat_ofNat, BitVec.toNat_ofNat, Nat.mod_eq_of_lt (by omega), Nat.mod_eq_of_lt (by decide), Nat.and_two_pow_sub_one_eq_mod, Nat.mod_eq_of_lt h]
  have hw : IntKind.u64.wrap (x : Int) = x := wrapU64 (by omega) (by omega)
  simp only [arith, if_true, iop, ibits]
  rw [show IntKind.u64.bits = 64 from rfl, h1, hw]
  rfl
theorem shr_32 (x : Nat) (h : x < 2 ^ 32) : arith .shr (.int .u64 (x : Int)) (.int .u64 32) = some (.int .u64 0) := by
  have h1 : (x : Int).fdiv (2 ^ 32) = 0 := by
    rw [Int.fdiv_eq_ediv_of_nonneg _ (by decide)]
    exact Int.ediv_eq_zero_of_lt (by omega) (by omega)
  have hb : min (32 : Int).toNat IntKind.u64.bits = 32 := by decide
  simp only [arith, hb, h1]
  simp
theorem mul_u64 {x y : Nat} (h : x * y < 2 ^ 63) : arith .mul (.int .u64 (x : Int)) (.int .u64 (y : Int)) = some (.int .u64 ((x * y : Nat) : Int)) := by
  rw [ar_mul, ← Int.natCast_mul, wrapU64 (by omega) (by omega)]
theorem add_u64 {x y : Nat} (h : x + y < 2 ^ 63) : arith .add (.int .u64 (x : Int)) (.int .u64 (y : Int)) = some (.int .u64 ((x + y : Nat) : Int)) := by
  rw [ar_add, ← Int.natCast_add, wrapU64 (by omega) (by omega)]

theorem mul_ok {m : Mem} {x y : Nat} (hx : x ≤ 1000) (hy : y ≤ 1000) : Call S tab 46 [.int .u64 x, .int .u64 y] m = some (.tuple #[.int .u64 0, .int .u64 ((x * y : Nat) : Int)], m) := by
  have hxy : x * y ≤ 1000 * 1000 := Nat.mul_le_mul hx hy
  have e0 : (Value.int .u64 0) = .int .u64 ((0 : Nat) : Int) := rfl
  have h48 : Call S tab 48 [.int .u64 x, .int .u64 y] m = some (.tuple #[.int .u64 0, .int .u64 ((x * y : Nat) : Int)], m) := by
    rw [C48, and_mask x (by omega), shr_32 x (by omega), and_mask y (by omega), shr_32 y (by omega)]
    simp only [Option.bind_some]
    rw [mul_u64 (by omega), e0]
    simp only [Option.bind_some]
    rw [mul_u64 (x := 0) (by omega), shr_32 _ (by omega)]
    simp only [Option.bind_some, Nat.zero_mul]
    rw [e0, add_u64 (by omega)]
    simp only [Option.bind_some, Nat.add_zero]
    rw [and_mask 0 (by omega), shr_32 0 (by omega), mul_u64 (x := x) (y := 0) (by omega)]
    simp only [Option.bind_some, Nat.mul_zero]
    rw [e0, add_u64 (by omega)]
    simp only [Option.bind_some, Nat.add_zero]
    rw [mul_u64 (x := 0) (y := 0) (by omega)]
    simp only [Option.bind_some, Nat.mul_zero]
    rw [add_u64 (by omega), shr_32 0 (by omega)]
    simp only [Option.bind_some, Nat.add_zero]
    rw [e0, add_u64 (by omega)]
    simp only [Option.bind_some, Nat.add_zero]
  rw [C46, cnd_false, h48]
  rfl

/- slices.Repeat -/
theorem rep_drop {α : Type} (l : List α) (c q : Nat) : ((List.replicate c l).flatten).drop (q * l.length) = (List.replicate (c - q) l).flatten := by
  induction q generalizing c with
  | zero => simp
  | succ q ih =>
    cases c with
    | zero => simp
    | succ c =>
      rw [List.replicate_succ, List.flatten_cons, Nat.add_mul, Nat.one_mul, Nat.add_comm, List.drop_append]
      simp [ih]
theorem rep_take {α : Type} (l : List α) (c q : Nat) (h : q ≤ c) : ((List.replicate c l).flatten).take (q * l.length) = (List.replicate q l).flatten := by
  induction q generalizing c with
  | zero => simp
  | succ q ih =>
    cases c with
    | zero => omega
    | succ c =>
      rw [List.replicate_succ, List.flatten_cons, Nat.add_mul, Nat.one_mul, Nat.add_comm, List.take_append, List.replicate_succ, List.flatten_cons, List.take_of_length_le (by omega), Nat.add_sub_cancel_left, ih c (by omega)]

/-- A block of so many places, of which some are filled. -/
structure Fill (m0 : Mem) (m : Mem) (T : List (Int × Int)) (k : Nat) : Prop where
  le : k ≤ T.length
  upd : Upd [] m0 m
  lt : m0.next < m.next
  blk : ∃ rest, m.get m0.next = some ⟨.cells (encOp.flat (T.take k) ++ rest) 82, false, none⟩ ∧ rest.length = (T.length - k) * 11

theorem Fill.copy {m0 m : Mem} {T : List (Int × Int)} {k n : Nat} (h : Fill m0 m T k) (src : List (Int × Int)) (hs : src = (T.drop k).take n) (hn : n = src.length) (h0 : n ≠ 0) :
    ∃ m', m' = m.put m0.next ⟨.cells (setRange (encOp.flat (T.take k) ++ (Classical.choose h.blk)) (k * 11) (encOp.flat src)) 82, false, none⟩ ∧ Fill m0 m' T (k + n) := by
  obtain ⟨hb, hr⟩ := Classical.choose_spec h.blk
  generalize Classical.choose h.blk = rest at hb hr ⊢
  have hle : k + n ≤ T.length := by
    have := congrArg List.length hs
    rw [List.length_take, List.length_drop] at this
    have := h.le
    omega
  have hkl : (T.take k).length = k := by rw [List.length_take]; omega
  refine ⟨_, rfl, ⟨hle, h.upd.put' _ (.inr (Nat.le_refl _)), h.lt, rest.drop (n * 11), ?_, ?_⟩⟩
  · rw [Mem.get_put_self]
    have hle2 : n * 11 ≤ rest.length := by rw [hr]; exact Nat.mul_le_mul_right _ (by omega)
    have := setRange_append (encOp.flat (T.take k)) (rest.take (n * 11)) (rest.drop (n * 11)) (encOp.flat src) (by rw [List.length_take, encOp.flat_len, osize, ← hn]; omega)
    rw [List.take_append_drop, encOp.flat_len, hkl, osize] at this
    rw [this, ← List.append_assoc, ← encOp.flat_append, hs, List.take_add]
  · rw [List.length_drop, hr, ← Nat.sub_sub, Nat.sub_mul (T.length - k)]

theorem rep_loop {m0 : Mem} {l : List (Int × Int)} {c : Nat} (hl : 0 < l.length) (hN : c * l.length ≤ 2 ^ 30) : ∀ (d q : Nat) (m : Mem), c - q ≤ d → 0 < q → q ≤ c → Fill m0 m (List.replicate c l).flatten (q * l.length) →
    W (P45_2 (.slice (some ⟨m0.next, 0, none⟩) (c * l.length) (c * l.length)) (.int .i64 ((q * l.length : Nat) : Int)) m) fun v' m' => v' = .slice (some ⟨m0.next, 0, none⟩) (c * l.length) (c * l.length) ∧ Fill m0 m' (List.replicate c l).flatten (c * l.length) := by
  have hTl : ((List.replicate c l).flatten).length = c * l.length := by simp
  intro d
  induction d with
  | zero =>
    intro q m hd hq hc h
    obtain rfl : q = c := by omega
    rw [P45_2_eq]
    simp -implicitDefEqProofs only [Option.bind_some, W_some, W_nw, W_nws, cnd_true, cnd_false, gdo_tt, gdo_ff, gdo_tf, gdo_ft, ar_lss, ar_leq, ar_gtr, ar_geq, ar_eql, ar_neq, asB_b, un_not, un_notd, max_i, min_i, Bool.not_true, Bool.not_false, decide_true, decide_false, decide_not, reduceIte, if_true, if_false, Bool.false_eq_true, not_true_eq_false, not_false_eq_true, Bool.true_eq_false, runLenSlice, Int.lt_irrefl]
    exact ⟨trivial, h⟩
  | succ d ih =>
    intro q m hd hq hc h
    rcases Nat.lt_or_ge q c with hlt | hge
    · have hqc : q * l.length < c * l.length := Nat.mul_lt_mul_of_pos_right hlt hl
      have hcond : ((q * l.length : Nat) : Int) < ((c * l.length : Nat) : Int) := by omega
      rw [P45_2_eq]
      obtain ⟨rest, hb, hr⟩ := h.blk
      have hown : m.ownAt m0.next = some (encOp.flat ((List.replicate c l).flatten.take (q * l.length)) ++ rest, 82, none) := by simp [Mem.ownAt, hb]
      have hkn : m.known m0.next = .exact := by simp [Mem.known, hb]
      have hs1 : runSliceS 11 (.slice (some ⟨m0.next, 0, none⟩) (c * l.length) (c * l.length)) (some (.int .i64 ((q * l.length : Nat) : Int))) none m = some (.slice (some ⟨m0.next, q * l.length * 11, none⟩) (c * l.length - q * l.length) (c * l.length - q * l.length)) := by
        have : (0 : Int) ≤ ((q * l.length : Nat) : Int) ∧ ((q * l.length : Nat) : Int) ≤ ((c * l.length : Nat) : Int) := by omega
        have hne : ¬ (c * l.length = q * l.length) := by omega
        simp only [runSliceS, boundsV, boundV, Option.bind_some, if_pos this, Option.map_some, hkn, Int.toNat_natCast, true_or, or_true, if_true, if_neg hne, Nat.zero_add]
      have hs2 : runSliceS 11 (.slice (some ⟨m0.next, 0, none⟩) (c * l.length) (c * l.length)) none (some (.int .i64 ((q * l.length : Nat) : Int))) m = some (.slice (some ⟨m0.next, 0, none⟩) (q * l.length) (c * l.length)) := by
        have : (0 : Int) ≤ ((q * l.length : Nat) : Int) ∧ ((q * l.length : Nat) : Int) ≤ ((c * l.length : Nat) : Int) := by omega
        simp only [runSliceS, boundsV, boundV, Option.bind_some, if_pos this, Option.map_some, hkn, Int.toNat_natCast, true_or, or_true, if_true, Nat.zero_mul, Nat.add_zero, Nat.sub_zero, ite_self]
      -- what is read
      let n := min (q * l.length) (c * l.length - q * l.length)
      have hpre : ((List.replicate c l).flatten).take (q * l.length) = (List.replicate q l).flatten := rep_take l c q (by omega)
      have hsrc : runSrc 11 (.slice (some ⟨m0.next, 0, none⟩) (q * l.length) (c * l.length)) m = some (q * l.length, encOp.flat (List.replicate q l).flatten) := by
        have h0 : ¬ (q * l.length = 0) := by
          have := Nat.mul_pos hq hl
          omega
        have hfl : (encOp.flat (List.replicate q l).flatten).length = q * l.length * 11 := by rw [encOp.flat_len, osize]; simp
        simp only [runSrc, if_neg h0, cellsAt_of_get hb, Option.bind_some, hpre, Nat.zero_add, List.drop_zero]
        rw [if_pos (by rw [List.length_append, hfl]; omega), ← hfl, List.take_left']
        rfl
      obtain ⟨n2, hn2⟩ : ∃ n2, n2 = min q (c - q) := ⟨_, rfl⟩
      have hn : min (q * l.length) (c * l.length - q * l.length) = n2 * l.length := by
        rw [hn2, ← Nat.sub_mul]
        rcases Nat.le_total q (c - q) with hh | hh
        · rw [Nat.min_eq_left hh, Nat.min_eq_left (Nat.mul_le_mul_right _ hh)]
        · rw [Nat.min_eq_right hh, Nat.min_eq_right (Nat.mul_le_mul_right _ hh)]
      have hn20 : n2 * l.length ≠ 0 := by
        have : 0 < n2 := by omega
        have := Nat.mul_pos this hl
        omega
      have hdr : (((List.replicate c l).flatten).drop (q * l.length)).take (n2 * l.length) = (List.replicate n2 l).flatten := by rw [rep_drop, rep_take _ _ _ (by omega)]
      obtain ⟨m', hm', hF⟩ := h.copy (n := n2 * l.length) (List.replicate n2 l).flatten hdr.symm (by simp) hn20
      have hcp : runCopy 11 (.slice (some ⟨m0.next, q * l.length * 11, none⟩) (c * l.length - q * l.length) (c * l.length - q * l.length)) (q * l.length) (encOp.flat (List.replicate q l).flatten) m = some (.int .i64 ((n2 * l.length : Nat) : Int), m') := by
        obtain ⟨hb', hr'⟩ := Classical.choose_spec h.blk
        rw [hm']
        generalize Classical.choose h.blk = rest' at hb' hr' hm' ⊢
        have hown' : m.ownAt m0.next = some (encOp.flat ((List.replicate c l).flatten.take (q * l.length)) ++ rest', 82, none) := by simp [Mem.ownAt, hb']
        have hfl : (encOp.flat (List.replicate q l).flatten).length = q * l.length * 11 := by rw [encOp.flat_len, osize]; simp
        have hmin : Nat.min (q * l.length) (c * l.length - q * l.length) = n2 * l.length := hn
        simp only [runCopy, hmin, if_neg hn20, hown', Option.bind_some]
        have hln : q * l.length * 11 + (c * l.length - q * l.length) * 11 ≤ (encOp.flat ((List.replicate c l).flatten.take (q * l.length)) ++ rest').length := by
          rw [List.length_append, hr', encOp.flat_len, osize, hpre, hTl]; simp
        rw [if_pos ⟨hln, by omega, hfl, encOp.flat_all _⟩]
        have e1 : (encOp.flat (List.replicate q l).flatten).take (n2 * l.length * 11) = encOp.flat (List.replicate n2 l).flatten := by rw [← osize, encOp.flat_take, rep_take _ _ _ (by omega)]
        rw [e1]
      have hadd : arith .add (.int .i64 ((q * l.length : Nat) : Int)) (.int .i64 ((n2 * l.length : Nat) : Int)) = some (.int .i64 (((q + n2) * l.length : Nat) : Int)) := by
        have : n2 * l.length ≤ c * l.length := Nat.mul_le_mul_right _ (by omega)
        rw [i64_addN (by omega), Nat.add_mul]
      simp -implicitDefEqProofs only [Option.bind_some, W_some, W_nw, W_nws, cnd_true, cnd_false, gdo_tt, gdo_ff, gdo_tf, gdo_ft, ar_lss, ar_leq, ar_gtr, ar_geq, ar_eql, ar_neq, asB_b, un_not, un_notd, max_i, min_i, Bool.not_true, Bool.not_false, decide_true, decide_false, decide_not, reduceIte, if_true, if_false, Bool.false_eq_true, not_true_eq_false, not_false_eq_true, Bool.true_eq_false, runLenSlice, hcond, hs1, hs2, hsrc, hcp, hadd]
      exact ih (q + n2) m' (by omega) (by omega) (by omega) (by rw [Nat.add_mul]; exact hF)
    · exact ih q m (by omega) hq (by omega) h

theorem repeat_ok {m : Mem} {v : Value} {l : List (Int × Int)} {c : Nat} (hv : TSl encOp m v l) (hb : ∀ b ∈ blkOf v, b < m.next) (hl0 : 0 < l.length) (hl : l.length ≤ 1000) (hc : c ≤ 1000) :
    W (Call S tab 45 [v, .int .i64 (c : Int)] m) fun v' m' => TSl encOp m' v' (List.replicate c l).flatten ∧ Upd [] m m' ∧ ∀ b ∈ blkOf v', b < m'.next := by
  have hcl : l.length * c ≤ 1000 * 1000 := Nat.mul_le_mul hl hc
  have hcl2 : c * l.length ≤ 1000 * 1000 := by rw [Nat.mul_comm]; exact hcl
  have hTl : ((List.replicate c l).flatten).length = c * l.length := by simp
  have h1 : ¬ ((c : Int) < 0) := by omega
  have h2 : ¬ (9223372036854775807 < ((l.length * c : Nat) : Int)) := by omega
  have e1 : runExtract 0 (.tuple #[.int .u64 0, .int .u64 ((l.length * c : Nat) : Int)]) = some (.int .u64 0) := rfl
  have e2 : runExtract 1 (.tuple #[.int .u64 0, .int .u64 ((l.length * c : Nat) : Int)]) = some (.int .u64 ((l.length * c : Nat) : Int)) := rfl
  have c1 : runConv .u64 (.int .i64 (l.length : Int)) = some (.int .u64 (l.length : Int)) := conv_u64 _ (by omega) (by omega)
  have c2 : runConv .u64 (.int .i64 (c : Int)) = some (.int .u64 (c : Int)) := conv_u64 _ (by omega) (by omega)
  have c3 : runConv .i64 (.int .u64 ((l.length * c : Nat) : Int)) = some (.int .i64 ((l.length * c : Nat) : Int)) := conv_i64 _ (by omega) (by omega)
  have z0 : ¬ ((0 : Int) < 0) := by decide
  rw [C45]
  simp -implicitDefEqProofs only [Option.bind_some, W_some, W_nw, W_nws, cnd_true, cnd_false, gdo_tt, gdo_ff, gdo_tf, gdo_ft, ar_lss, ar_leq, ar_gtr, ar_geq, ar_eql, ar_neq, asB_b, un_not, un_notd, max_i, min_i, Bool.not_true, Bool.not_false, decide_true, decide_false, decide_not, reduceIte, if_true, if_false, Bool.false_eq_true, not_true_eq_false, not_false_eq_true, Bool.true_eq_false, h1]
  rw [P45_0_eq]
  simp -implicitDefEqProofs only [Option.bind_some, W_some, W_nw, W_nws, cnd_true, cnd_false, gdo_tt, gdo_ff, gdo_tf, gdo_ft, ar_lss, ar_leq, ar_gtr, ar_geq, ar_eql, ar_neq, asB_b, un_not, un_notd, max_i, min_i, Bool.not_true, Bool.not_false, decide_true, decide_false, decide_not, reduceIte, if_true, if_false, Bool.false_eq_true, not_true_eq_false, not_false_eq_true, Bool.true_eq_false, hv.len, c1, c2, mul_ok hl hc, e1, e2, z0, h2]
  rw [P45_1_eq]
  have hmk : runMakeS 82 120 z11 (.int .i64 ((l.length * c : Nat) : Int)) (.int .i64 ((l.length * c : Nat) : Int)) m = some (.slice (some ⟨m.next, 0, none⟩) (l.length * c) (l.length * c), m.add ⟨.cells (List.replicate (l.length * c) z11).flatten 82, false, none⟩) := by
    simp only [runMakeS]
    rw [if_pos ⟨by omega, by omega, by omega, by omega⟩, Int.toNat_natCast]
  have hu : Upd [] m (m.add ⟨.cells (List.replicate (l.length * c) z11).flatten 82, false, none⟩) := Upd.add _ _ _
  have hsrc := (hv.upd hu (fun b hh => ⟨hb b hh, by simp⟩)).src
  rw [osize] at hsrc
  have hF0 : Fill m (m.add ⟨.cells (List.replicate (l.length * c) z11).flatten 82, false, none⟩) (List.replicate c l).flatten 0 :=
    ⟨Nat.zero_le _, hu, by simp, _, by rw [Mem.get_add_self]; rfl, by rw [hTl]; simp [Nat.mul_comm]⟩
  have close : ∀ v' m', (v' = .slice (some ⟨m.next, 0, none⟩) (c * l.length) (c * l.length) ∧ Fill m m' (List.replicate c l).flatten (c * l.length)) → TSl encOp m' v' (List.replicate c l).flatten ∧ Upd [] m m' ∧ ∀ b ∈ blkOf v', b < m'.next := by
    rintro v' m' ⟨hv', h⟩
    refine ⟨?_, h.upd, fun b hb => by rw [hv'] at hb; simp [blkOf] at hb; subst hb; exact h.lt⟩
    obtain ⟨rest, hb, hr⟩ := h.blk
    rw [List.take_of_length_le (by rw [hTl]; exact Nat.le_refl _)] at hb
    exact ⟨encOp.flat_len _, .inr ⟨m.next, 0, c * l.length, by rw [hTl]; exact hv', by rw [hTl]; exact Nat.le_refl _, .inr ⟨_, cellsAt_of_get hb, by rw [List.length_append, encOp.flat_len]; omega, by rw [List.drop_zero, ← encOp.flat_len, List.take_left']; rfl⟩⟩⟩
  rcases Nat.eq_zero_or_pos c with rfl | hc0
  · have hcp : runCopy 11 (.slice (some ⟨m.next, 0, none⟩) (l.length * 0) (l.length * 0)) l.length (encOp.flat l) (m.add ⟨.cells (List.replicate (l.length * 0) z11).flatten 82, false, none⟩) = some (.int .i64 0, m.add ⟨.cells (List.replicate (l.length * 0) z11).flatten 82, false, none⟩) := by
      simp [runCopy]
    simp -implicitDefEqProofs only [Option.bind_some, W_some, W_nw, W_nws, cnd_true, cnd_false, gdo_tt, gdo_ff, gdo_tf, gdo_ft, ar_lss, ar_leq, ar_gtr, ar_geq, ar_eql, ar_neq, asB_b, un_not, un_notd, max_i, min_i, Bool.not_true, Bool.not_false, decide_true, decide_false, decide_not, reduceIte, if_true, if_false, Bool.false_eq_true, not_true_eq_false, not_false_eq_true, Bool.true_eq_false, c3, hmk, hsrc, hcp]
    rw [P45_2_eq]
    have hlz : runLenSlice (.slice (some ⟨m.next, 0, none⟩) (l.length * 0) (l.length * 0)) = some (.int .i64 0) := rfl
    simp -implicitDefEqProofs only [Option.bind_some, W_some, W_nw, W_nws, cnd_true, cnd_false, gdo_tt, gdo_ff, gdo_tf, gdo_ft, ar_lss, ar_leq, ar_gtr, ar_geq, ar_eql, ar_neq, asB_b, un_not, un_notd, max_i, min_i, Bool.not_true, Bool.not_false, decide_true, decide_false, decide_not, reduceIte, if_true, if_false, Bool.false_eq_true, not_true_eq_false, not_false_eq_true, Bool.true_eq_false, hlz, z0]
    exact close _ _ ⟨by simp, by simpa using hF0⟩
  · obtain ⟨m1, hm1, hF1⟩ := hF0.copy (n := l.length) l (by rw [List.drop_zero]; have := rep_take l c 1 hc0; simpa using this.symm) rfl (by omega)
    have hcp : runCopy 11 (.slice (some ⟨m.next, 0, none⟩) (l.length * c) (l.length * c)) l.length (encOp.flat l) (m.add ⟨.cells (List.replicate (l.length * c) z11).flatten 82, false, none⟩) = some (.int .i64 (l.length : Int), m1) := by
      obtain ⟨hb', hr'⟩ := Classical.choose_spec hF0.blk
      rw [hm1]
      generalize Classical.choose hF0.blk = rest' at hb' hr' hm1 ⊢
      have hown' : (m.add ⟨.cells (List.replicate (l.length * c) z11).flatten 82, false, none⟩).ownAt m.next = some (encOp.flat ((List.replicate c l).flatten.take 0) ++ rest', 82, none) := by simp [Mem.ownAt, hb']
      have hge : l.length * 1 ≤ l.length * c := Nat.mul_le_mul_left _ hc0
      have hmin : Nat.min l.length (l.length * c) = l.length := Nat.min_eq_left (by omega)
      have hne : ¬ (l.length = 0) := by omega
      simp only [runCopy, hmin, if_neg hne, hown', Option.bind_some]
      rw [if_pos ⟨by rw [List.length_append, hr', hTl, encOp.flat_len]; simp [Nat.mul_comm], by omega, by rw [encOp.flat_len, osize], encOp.flat_all _⟩]
      have e1 : (encOp.flat l).take (l.length * 11) = encOp.flat l := by rw [← osize, encOp.flat_take, List.take_length]
      rw [e1, Nat.zero_mul]
    simp -implicitDefEqProofs only [Option.bind_some, W_some, W_nw, W_nws, cnd_true, cnd_false, gdo_tt, gdo_ff, gdo_tf, gdo_ft, ar_lss, ar_leq, ar_gtr, ar_geq, ar_eql, ar_neq, asB_b, un_not, un_notd, max_i, min_i, Bool.not_true, Bool.not_false, decide_true, decide_false, decide_not, reduceIte, if_true, if_false, Bool.false_eq_true, not_true_eq_false, not_false_eq_true, Bool.true_eq_false, c3, hmk, hsrc, hcp]
    rw [show (l.length : Int) = ((1 * l.length : Nat) : Int) by simp]
    refine Eq.mp (by rw [Nat.mul_comm c]) ((rep_loop (m0 := m) hl0 (by omega) c 1 m1 (by omega) (by omega) hc0 (by simpa using hF1)).mono close)

/- duty.Rounds -/
theorem r36_0 {n : Int} {F : Nat} (hF : F ≤ 100) : ∀ (d i : Nat) (m : Mem) (v : Value), i + d = F → TAp encOp 82 m v ((5, 1000000) :: runs i) →
    W (P36_0 (.int .i64 n) v (.int .i64 (F : Int)) (.int .i64 (i : Int)) m) fun v' m' => TSl encOp m' v' (rounds (clamp n 100) F) ∧ Upd (blkOf v) m m' ∧ ∀ b ∈ blkOf v', b < m'.next := by
  intro d
  induction d with
  | zero =>
    intro i m v hi h
    obtain rfl : i = F := by omega
    have hlen : ((5, 1000000) :: runs i).length = i + 1 := by simp [runs_len]
    rw [P36_0_eq]
    simp -implicitDefEqProofs only [Option.bind_some, W_some, W_nw, W_nws, cnd_true, cnd_false, gdo_tt, gdo_ff, gdo_tf, gdo_ft, ar_lss, ar_leq, ar_gtr, ar_geq, ar_eql, ar_neq, asB_b, un_not, un_notd, max_i, min_i, Bool.not_true, Bool.not_false, decide_true, decide_false, decide_not, reduceIte, if_true, if_false, Bool.false_eq_true, not_true_eq_false, not_false_eq_true, Bool.true_eq_false, Int.lt_irrefl]
    rw [P36_1_eq]
    have f2 : afill [.int .i64 0, .int .i64 0, .int .i64 0, .int .i64 0, .string ⟨#[]⟩, .int .i64 0, .int .i64 0, .string ⟨#[]⟩, .int .i64 0, .slice none 0 0, .int .i64 0, .int .i64 0, .int .i64 0, .int .i64 0, .int .i64 0, .string ⟨#[]⟩, .int .i64 0, .int .i64 0, .string ⟨#[]⟩, .int .i64 0, .slice none 0 0, .int .i64 0] [(0, 11, Value.agg (encOp.cells (6, 64)).toArray), (11, 11, Value.agg (encOp.cells (7, 0)).toArray)] = some (encOp.flat [(6, 64), (7, 0)]) := by kernel_rfl
    simp -implicitDefEqProofs only [Option.bind_some, W_some, W_nw, W_nws, cnd_true, cnd_false, gdo_tt, gdo_ff, gdo_tf, gdo_ft, ar_lss, ar_leq, ar_gtr, ar_geq, ar_eql, ar_neq, asB_b, un_not, un_notd, max_i, min_i, Bool.not_true, Bool.not_false, decide_true, decide_false, decide_not, reduceIte, if_true, if_false, Bool.false_eq_true, not_true_eq_false, not_false_eq_true, Bool.true_eq_false, fill_one, fill_ack, f2]
    refine put_ops [(6, 64), (7, 0)] h (by rw [hlen]; simp; omega) fun v' m' h1 h2 h3 => ?_
    have hcl := clamp_eq n 100
    simp only [Int.cast_ofNat_Int] at hcl
    simp -implicitDefEqProofs only [Option.bind_some, W_some, W_nw, W_nws, cnd_true, cnd_false, gdo_tt, gdo_ff, gdo_tf, gdo_ft, ar_lss, ar_leq, ar_gtr, ar_geq, ar_eql, ar_neq, asB_b, un_not, un_notd, max_i, min_i, Bool.not_true, Bool.not_false, decide_true, decide_false, decide_not, reduceIte, if_true, if_false, Bool.false_eq_true, not_true_eq_false, not_false_eq_true, Bool.true_eq_false, hcl]
    refine W.bind (repeat_ok h1.tsl h1.lt (by simp) (by simp [runs_len]; omega) (Nat.le_trans (clamp_le n 100) (by omega))) fun v2 m2 ⟨g1, g2, g3⟩ => ?_
    exact W_some.2 ⟨g1, h2.then0 g2, g3⟩
  | succ d ih =>
    intro i m v hi h
    have hlen : ((5, 1000000) :: runs i).length = i + 1 := by simp [runs_len]
    have hlt : (i : Int) < (F : Int) := by omega
    rw [P36_0_eq]
    simp -implicitDefEqProofs only [Option.bind_some, W_some, W_nw, W_nws, cnd_true, cnd_false, gdo_tt, gdo_ff, gdo_tf, gdo_ft, ar_lss, ar_leq, ar_gtr, ar_geq, ar_eql, ar_neq, asB_b, un_not, un_notd, max_i, min_i, Bool.not_true, Bool.not_false, decide_true, decide_false, decide_not, reduceIte, if_true, if_false, Bool.false_eq_true, not_true_eq_false, not_false_eq_true, Bool.true_eq_false, hlt, fill_one, fill_agg]
    rw [← encOp.flat_one]
    refine put_ops [(4, (i : Int))] h (by rw [hlen]; simp; omega) fun v' m' h1 h2 h3 => ?_
    simp -implicitDefEqProofs only [Option.bind_some, W_some, W_nw, W_nws, cnd_true, cnd_false, gdo_tt, gdo_ff, gdo_tf, gdo_ft, ar_lss, ar_leq, ar_gtr, ar_geq, ar_eql, ar_neq, asB_b, un_not, un_notd, max_i, min_i, Bool.not_true, Bool.not_false, decide_true, decide_false, decide_not, reduceIte, if_true, if_false, Bool.false_eq_true, not_true_eq_false, not_false_eq_true, Bool.true_eq_false, i64_succ (show i < 2 ^ 62 by omega)]
    refine (ih (i + 1) m' v' (by omega) (by rw [runs_succ]; exact h1)).mono fun v2 m2 ⟨g1, g2, g3⟩ => ⟨g1, h2.then' g2 h3, g3⟩

theorem rounds_ok (n f : Int) (m : Mem) : W (Call S tab 36 [.int .i64 n, .int .i64 f] m) fun v' m' => TSl encOp m' v' (rounds (clamp n 100) (clamp f 100)) ∧ Upd [] m m' ∧ ∀ b ∈ blkOf v', b < m'.next := by
  have hcl := clamp_eq f 100
  simp only [Int.cast_ofNat_Int] at hcl
  rw [C36]
  simp -implicitDefEqProofs only [Option.bind_some, W_some, W_nw, W_nws, cnd_true, cnd_false, gdo_tt, gdo_ff, gdo_tf, gdo_ft, ar_lss, ar_leq, ar_gtr, ar_geq, ar_eql, ar_neq, asB_b, un_not, un_notd, max_i, min_i, Bool.not_true, Bool.not_false, decide_true, decide_false, decide_not, reduceIte, if_true, if_false, Bool.false_eq_true, not_true_eq_false, not_false_eq_true, Bool.true_eq_false, fill_one, fill_agg, hcl]
  have h0 : TAp encOp 82 (m.add ⟨.cells (encOp.cells (5, 1000000)) 82, false, none⟩) (.slice (some ⟨m.next, 0, none⟩) 1 1) ((5, 1000000) :: runs 0) := by
    have := TAp.fresh (E := encOp) (e := 82) m [(5, 1000000)]
    rw [encOp.flat_one] at this
    exact this
  refine (r36_0 (clamp_le f 100) (clamp f 100) 0 _ _ (by omega) h0).mono fun v' m' ⟨h1, h2, h3⟩ => ⟨h1, (Upd.add [] m _).then' h2 fun b hb => ?_, h3⟩
  simp [blkOf] at hb
  exact .inr (by omega)

/- the reference's rounds -/
theorem clamp_lt {x : Int} {h i : Nat} : i < clamp x h ↔ (i : Int) < x ∧ (i : Int) < h := by unfold clamp; omega
theorem rounds_succ (i f : Nat) : rounds (i + 1) f = rounds i f ++ round f := by
  simp only [rounds, List.replicate_succ', List.flatten_append, List.flatten_cons, List.flatten_nil, List.append_nil]

theorem r37_2 {n f : Int} {i : Nat} {m : Mem} {v : Value} {Q : Value → Mem → Prop} (hi : i ≤ 1000) (h : TAp encOp 82 m v (rounds i (clamp f 100) ++ (5, 1000000) :: runs (clamp f 100)))
    (hK : ∀ v' m', TAp encOp 82 m' v' (rounds (i + 1) (clamp f 100)) → Upd (blkOf v) m m' → (∀ b ∈ blkOf v', b ∈ blkOf v ∨ m.next ≤ b) → W (P37_0 (.int .i64 n) (.int .i64 f) v' (.int .i64 ((i + 1 : Nat) : Int)) m') Q) :
    W (P37_2 (.int .i64 n) (.int .i64 f) v (.int .i64 (i : Int)) m) Q := by
  have f2 : afill [.int .i64 0, .int .i64 0, .int .i64 0, .int .i64 0, .string ⟨#[]⟩, .int .i64 0, .int .i64 0, .string ⟨#[]⟩, .int .i64 0, .slice none 0 0, .int .i64 0, .int .i64 0, .int .i64 0, .int .i64 0, .int .i64 0, .string ⟨#[]⟩, .int .i64 0, .int .i64 0, .string ⟨#[]⟩, .int .i64 0, .slice none 0 0, .int .i64 0] [(0, 11, Value.agg (encOp.cells (6, 64)).toArray), (11, 11, Value.agg (encOp.cells (7, 0)).toArray)] = some (encOp.flat [(6, 64), (7, 0)]) := by kernel_rfl
  have hc := clamp_le f 100
  have hl : i * (clamp f 100 + 3) ≤ 1000 * 103 := Nat.mul_le_mul hi (by omega)
  rw [P37_2_eq]
  simp -implicitDefEqProofs only [Option.bind_some, W_some, W_nw, W_nws, cnd_true, cnd_false, gdo_tt, gdo_ff, gdo_tf, gdo_ft, ar_lss, ar_leq, ar_gtr, ar_geq, ar_eql, ar_neq, asB_b, un_not, un_notd, max_i, min_i, Bool.not_true, Bool.not_false, decide_true, decide_false, decide_not, reduceIte, if_true, if_false, Bool.false_eq_true, not_true_eq_false, not_false_eq_true, Bool.true_eq_false, fill_one, fill_ack, f2]
  refine put_ops [(6, 64), (7, 0)] h (by rw [List.length_append, rounds_len, List.length_cons, runs_len, List.length_cons, List.length_cons, List.length_nil]; omega) fun v' m' h1 h2 h3 => ?_
  simp -implicitDefEqProofs only [Option.bind_some, W_some, W_nw, W_nws, cnd_true, cnd_false, gdo_tt, gdo_ff, gdo_tf, gdo_ft, ar_lss, ar_leq, ar_gtr, ar_geq, ar_eql, ar_neq, asB_b, un_not, un_notd, max_i, min_i, Bool.not_true, Bool.not_false, decide_true, decide_false, decide_not, reduceIte, if_true, if_false, Bool.false_eq_true, not_true_eq_false, not_false_eq_true, Bool.true_eq_false, i64_succ (show i < 2 ^ 62 by omega)]
  exact hK v' m' (by rw [rounds_succ]; simpa [round] using h1) h2 h3

theorem r37_1 {n f : Int} {i : Nat} {Q : Value → Mem → Prop} (hi : i ≤ 1000) : ∀ (d k : Nat) (m : Mem) (v : Value), k + d = clamp f 100 → TAp encOp 82 m v (rounds i (clamp f 100) ++ (5, 1000000) :: runs k) →
    (∀ v' m', TAp encOp 82 m' v' (rounds (i + 1) (clamp f 100)) → Upd (blkOf v) m m' → (∀ b ∈ blkOf v', b ∈ blkOf v ∨ m.next ≤ b) → W (P37_0 (.int .i64 n) (.int .i64 f) v' (.int .i64 ((i + 1 : Nat) : Int)) m') Q) →
    W (P37_1 (.int .i64 n) (.int .i64 f) v (.int .i64 (i : Int)) (.int .i64 (k : Int)) m) Q := by
  have hc := clamp_le f 100
  have hl : i * (clamp f 100 + 3) ≤ 1000 * 103 := Nat.mul_le_mul hi (by omega)
  intro d
  induction d with
  | zero =>
    intro k m v hk h hK
    obtain rfl : k = clamp f 100 := by omega
    have hno : ¬ (((clamp f 100 : Nat) : Int) < f ∧ ((clamp f 100 : Nat) : Int) < (100 : Nat)) := fun h => absurd (clamp_lt.2 h) (Nat.lt_irrefl _)
    rw [P37_1_eq]
    by_cases h1 : ((clamp f 100 : Nat) : Int) < f
    · have h2 : ¬ ((clamp f 100 : Nat) : Int) < 100 := fun h => hno ⟨h1, h⟩
      simp -implicitDefEqProofs only [Option.bind_some, W_some, W_nw, W_nws, cnd_true, cnd_false, gdo_tt, gdo_ff, gdo_tf, gdo_ft, ar_lss, ar_leq, ar_gtr, ar_geq, ar_eql, ar_neq, asB_b, un_not, un_notd, max_i, min_i, Bool.not_true, Bool.not_false, decide_true, decide_false, decide_not, reduceIte, if_true, if_false, Bool.false_eq_true, not_true_eq_false, not_false_eq_true, Bool.true_eq_false, h1, h2]
      exact r37_2 hi h hK
    · simp -implicitDefEqProofs only [Option.bind_some, W_some, W_nw, W_nws, cnd_true, cnd_false, gdo_tt, gdo_ff, gdo_tf, gdo_ft, ar_lss, ar_leq, ar_gtr, ar_geq, ar_eql, ar_neq, asB_b, un_not, un_notd, max_i, min_i, Bool.not_true, Bool.not_false, decide_true, decide_false, decide_not, reduceIte, if_true, if_false, Bool.false_eq_true, not_true_eq_false, not_false_eq_true, Bool.true_eq_false, h1]
      exact r37_2 hi h hK
  | succ d ih =>
    intro k m v hk h hK
    obtain ⟨h1, h2⟩ := (clamp_lt (x := f) (h := 100) (i := k)).1 (by omega)
    have h2 : (k : Int) < 100 := h2
    rw [P37_1_eq]
    simp -implicitDefEqProofs only [Option.bind_some, W_some, W_nw, W_nws, cnd_true, cnd_false, gdo_tt, gdo_ff, gdo_tf, gdo_ft, ar_lss, ar_leq, ar_gtr, ar_geq, ar_eql, ar_neq, asB_b, un_not, un_notd, max_i, min_i, Bool.not_true, Bool.not_false, decide_true, decide_false, decide_not, reduceIte, if_true, if_false, Bool.false_eq_true, not_true_eq_false, not_false_eq_true, Bool.true_eq_false, h1, h2, fill_one, fill_agg]
    rw [← encOp.flat_one]
    refine put_ops [(4, (k : Int))] h (by rw [List.length_append, rounds_len, List.length_cons, runs_len, List.length_cons, List.length_nil]; omega) fun v' m' h3 h4 h5 => ?_
    simp -implicitDefEqProofs only [Option.bind_some, W_some, W_nw, W_nws, cnd_true, cnd_false, gdo_tt, gdo_ff, gdo_tf, gdo_ft, ar_lss, ar_leq, ar_gtr, ar_geq, ar_eql, ar_neq, asB_b, un_not, un_notd, max_i, min_i, Bool.not_true, Bool.not_false, decide_true, decide_false, decide_not, reduceIte, if_true, if_false, Bool.false_eq_true, not_true_eq_false, not_false_eq_true, Bool.true_eq_false, i64_succ (show k < 2 ^ 62 by omega)]
    refine ih (k + 1) m' v' (by omega) (by rw [runs_succ]; simpa using h3) fun v2 m2 g1 g2 g3 => ?_
    have hn := h4.next
    exact hK v2 m2 g1 (h4.then' g2 h5) (fun b hb => (g3 b hb).elim (fun h => h5 b h) (fun h => .inr (by omega)))

theorem r37_0 {n f : Int} : ∀ (d i : Nat) (m : Mem) (v : Value), i + d = clamp n 100 → TAp encOp 82 m v (rounds i (clamp f 100)) →
    W (P37_0 (.int .i64 n) (.int .i64 f) v (.int .i64 (i : Int)) m) fun v' m' => TSl encOp m' v' (rounds (clamp n 100) (clamp f 100)) ∧ Upd (blkOf v) m m' := by
  have hc := clamp_le f 100
  have hcn := clamp_le n 100
  intro d
  induction d with
  | zero =>
    intro i m v hi h
    obtain rfl : i = clamp n 100 := by omega
    have hno : ¬ (((clamp n 100 : Nat) : Int) < n ∧ ((clamp n 100 : Nat) : Int) < (100 : Nat)) := fun h => absurd (clamp_lt.2 h) (Nat.lt_irrefl _)
    rw [P37_0_eq]
    by_cases h1 : ((clamp n 100 : Nat) : Int) < n
    · have h2 : ¬ ((clamp n 100 : Nat) : Int) < 100 := fun h => hno ⟨h1, h⟩
      simp -implicitDefEqProofs only [Option.bind_some, W_some, W_nw, W_nws, cnd_true, cnd_false, gdo_tt, gdo_ff, gdo_tf, gdo_ft, ar_lss, ar_leq, ar_gtr, ar_geq, ar_eql, ar_neq, asB_b, un_not, un_notd, max_i, min_i, Bool.not_true, Bool.not_false, decide_true, decide_false, decide_not, reduceIte, if_true, if_false, Bool.false_eq_true, not_true_eq_false, not_false_eq_true, Bool.true_eq_false, h1, h2]
      exact ⟨h.tsl, Upd.refl _ _⟩
    · simp -implicitDefEqProofs only [Option.bind_some, W_some, W_nw, W_nws, cnd_true, cnd_false, gdo_tt, gdo_ff, gdo_tf, gdo_ft, ar_lss, ar_leq, ar_gtr, ar_geq, ar_eql, ar_neq, asB_b, un_not, un_notd, max_i, min_i, Bool.not_true, Bool.not_false, decide_true, decide_false, decide_not, reduceIte, if_true, if_false, Bool.false_eq_true, not_true_eq_false, not_false_eq_true, Bool.true_eq_false, h1]
      exact ⟨h.tsl, Upd.refl _ _⟩
  | succ d ih =>
    intro i m v hi h
    have hl : i * (clamp f 100 + 3) ≤ 1000 * 103 := Nat.mul_le_mul (by omega) (by omega)
    obtain ⟨h1, h2⟩ := (clamp_lt (x := n) (h := 100) (i := i)).1 (by omega)
    have h2 : (i : Int) < 100 := h2
    rw [P37_0_eq]
    simp -implicitDefEqProofs only [Option.bind_some, W_some, W_nw, W_nws, cnd_true, cnd_false, gdo_tt, gdo_ff, gdo_tf, gdo_ft, ar_lss, ar_leq, ar_gtr, ar_geq, ar_eql, ar_neq, asB_b, un_not, un_notd, max_i, min_i, Bool.not_true, Bool.not_false, decide_true, decide_false, decide_not, reduceIte, if_true, if_false, Bool.false_eq_true, not_true_eq_false, not_false_eq_true, Bool.true_eq_false, h1, h2, fill_one, fill_agg]
    rw [← encOp.flat_one]
    refine put_ops [(5, 1000000)] h (by rw [rounds_len, List.length_cons, List.length_nil]; omega) fun v' m' h3 h4 h5 => ?_
    refine r37_1 (by omega) (clamp f 100) 0 m' v' (by omega) h3 fun v2 m2 g1 g2 g3 => ?_
    have hn := h4.next
    refine (ih (i + 1) m2 v2 (by omega) g1).mono fun v3 m3 ⟨k1, k2⟩ => ⟨k1, (h4.then' g2 h5).then' k2 fun b hb => ?_⟩
    exact (g3 b hb).elim (fun h => h5 b h) (fun h => .inr (by omega))

/- SameOps -/
theorem so_loop {m : Mem} {v w : Value} {l : List (Int × Int)} (hv : TSl encOp m v l) (hw : TSl encOp m w l) (hn : l.length ≤ 2 ^ 60) : ∀ (d i : Nat), i + d = l.length → P35_0 v w (.int .i64 (i : Int)) m = some (.bool true, m) := by
  intro d
  induction d with
  | zero =>
    intro i hi
    obtain rfl : i = l.length := by omega
    rw [P35_0_eq]
    simp -implicitDefEqProofs only [Option.bind_some, W_some, W_nw, W_nws, cnd_true, cnd_false, gdo_tt, gdo_ff, gdo_tf, gdo_ft, ar_lss, ar_leq, ar_gtr, ar_geq, ar_eql, ar_neq, asB_b, un_not, un_notd, max_i, min_i, Bool.not_true, Bool.not_false, decide_true, decide_false, decide_not, reduceIte, if_true, if_false, Bool.false_eq_true, not_true_eq_false, not_false_eq_true, Bool.true_eq_false, hv.len, Int.lt_irrefl]
  | succ d ih =>
    intro i hi
    have hin : i < l.length := by omega
    have hlt : (i : Int) < (l.length : Int) := by omega
    obtain ⟨b, off, hq1, hq2⟩ := hv.at .i64 (List.getElem?_eq_getElem hin)
    obtain ⟨c, ogg, hp1, hp2⟩ := hw.at .i64 (List.getElem?_eq_getElem hin)
    rw [osize] at hq1 hp1
    have hld := (hq2 m hv).2 0 (.int .i64 l[i].1) rfl
    have hld' := (hp2 m hw).2 0 (.int .i64 l[i].1) rfl
    have hl8 := (hq2 m hv).2 8 (.int .i64 l[i].2) rfl
    have hl8' := (hp2 m hw).2 8 (.int .i64 l[i].2) rfl
    have hfa : ∀ k b off, runFieldAddr k (.pointer (some ⟨b, off, none⟩)) = some (.pointer (some ⟨b, off + k, none⟩)) := fun _ _ _ => rfl
    rw [P35_0_eq]
    simp -implicitDefEqProofs only [Option.bind_some, W_some, W_nw, W_nws, cnd_true, cnd_false, gdo_tt, gdo_ff, gdo_tf, gdo_ft, ar_lss, ar_leq, ar_gtr, ar_geq, ar_eql, ar_neq, asB_b, un_not, un_notd, max_i, min_i, Bool.not_true, Bool.not_false, decide_true, decide_false, decide_not, reduceIte, if_true, if_false, Bool.false_eq_true, not_true_eq_false, not_false_eq_true, Bool.true_eq_false, hv.len, hlt, hq1, hp1, hfa, hld, hld', hl8, hl8', i64_succ (show i < 2 ^ 62 by omega), ih (i + 1) (by omega)]

theorem sameOps_ok {m : Mem} {v w : Value} {l : List (Int × Int)} (hv : TSl encOp m v l) (hw : TSl encOp m w l) (hn : l.length ≤ 2 ^ 60) : Call S tab 35 [v, w] m = some (.bool true, m) := by
  have := so_loop hv hw hn l.length 0 (by omega)
  rw [C35]
  simp -implicitDefEqProofs only [Option.bind_some, W_some, W_nw, W_nws, cnd_true, cnd_false, gdo_tt, gdo_ff, gdo_tf, gdo_ft, ar_lss, ar_leq, ar_gtr, ar_geq, ar_eql, ar_neq, asB_b, un_not, un_notd, max_i, min_i, Bool.not_true, Bool.not_false, decide_true, decide_false, decide_not, reduceIte, if_true, if_false, Bool.false_eq_true, not_true_eq_false, not_false_eq_true, Bool.true_eq_false, hv.len, hw.len]
  exact this

theorem enough_ok (n : Int) (m : Mem) : Call S tab 38 [.int .i64 n] m = some (.int .i64 (24 + 2 * (clamp n 10000 : Nat)), m) := by
  have hcl := clamp_eq n 10000
  have hc := clamp_le n 10000
  simp only [Int.cast_ofNat_Int] at hcl
  rw [C38]
  simp -implicitDefEqProofs only [Option.bind_some, W_some, W_nw, W_nws, cnd_true, cnd_false, gdo_tt, gdo_ff, gdo_tf, gdo_ft, ar_lss, ar_leq, ar_gtr, ar_geq, ar_eql, ar_neq, asB_b, un_not, un_notd, max_i, min_i, Bool.not_true, Bool.not_false, decide_true, decide_false, decide_not, reduceIte, if_true, if_false, Bool.false_eq_true, not_true_eq_false, not_false_eq_true, Bool.true_eq_false, hcl]
  rw [ar_mul, wrap64 (by omega) (by omega)]
  simp -implicitDefEqProofs only [Option.bind_some, W_some, W_nw, W_nws, cnd_true, cnd_false, gdo_tt, gdo_ff, gdo_tf, gdo_ft, ar_lss, ar_leq, ar_gtr, ar_geq, ar_eql, ar_neq, asB_b, un_not, un_notd, max_i, min_i, Bool.not_true, Bool.not_false, decide_true, decide_false, decide_not, reduceIte, if_true, if_false, Bool.false_eq_true, not_true_eq_false, not_false_eq_true, Bool.true_eq_false]
  rw [ar_add, wrap64 (by omega) (by omega)]
  rfl

theorem dutyRounds (n f : Int) (m : Mem) : ∃ m', Call S tab 11 [.int .i64 n, .int .i64 f] m = some (.bool true, m') := by
  have hcl := clamp_eq n 10000
  have hc := clamp_le n 10000
  have hc1 := clamp_le n 100
  have hc2 := clamp_le f 100
  have hl : clamp n 100 * (clamp f 100 + 3) ≤ 100 * 103 := Nat.mul_le_mul (by omega) (by omega)
  simp only [Int.cast_ofNat_Int] at hcl
  suffices W (Call S tab 11 [.int .i64 n, .int .i64 f] m) (fun v _ => v = .bool true) by
    obtain ⟨v, m', h1, rfl⟩ := this
    exact ⟨m', h1⟩
  rw [C11, eq22]
  simp -implicitDefEqProofs only [Option.bind_some, W_some, W_nw, W_nws, cnd_true, cnd_false, gdo_tt, gdo_ff, gdo_tf, gdo_ft, ar_lss, ar_leq, ar_gtr, ar_geq, ar_eql, ar_neq, asB_b, un_not, un_notd, max_i, min_i, Bool.not_true, Bool.not_false, decide_true, decide_false, decide_not, reduceIte, if_true, if_false, Bool.false_eq_true, not_true_eq_false, not_false_eq_true, Bool.true_eq_false]
  refine W.bind (rounds_ok n f m) fun v1 m1 ⟨h1, h2, h2b⟩ => ?_
  rw [C37]
  refine W.bind (r37_0 (f := f) (clamp n 100) 0 m1 (.slice none 0 0) (by omega) (TAp.nil m1)) fun v2 m2 ⟨h3, h4⟩ => ?_
  have h5 : TSl encOp m2 v1 (rounds (clamp n 100) (clamp f 100)) := h1.upd h4 fun b hb => ⟨h2b b hb, by simp [blkOf]⟩
  simp -implicitDefEqProofs only [sameOps_ok h5 h3 (by rw [rounds_len]; omega), Option.bind_some, W_some, W_nw, W_nws, cnd_true, cnd_false, gdo_tt, gdo_ff, gdo_tf, gdo_ft, ar_lss, ar_leq, ar_gtr, ar_geq, ar_eql, ar_neq, asB_b, un_not, un_notd, max_i, min_i, Bool.not_true, Bool.not_false, decide_true, decide_false, decide_not, reduceIte, if_true, if_false, Bool.false_eq_true, not_true_eq_false, not_false_eq_true, Bool.true_eq_false, enough_ok, hcl]
  rw [ar_mul, wrap64 (by omega) (by omega)]
  simp -implicitDefEqProofs only [Option.bind_some, W_some, W_nw, W_nws, cnd_true, cnd_false, gdo_tt, gdo_ff, gdo_tf, gdo_ft, ar_lss, ar_leq, ar_gtr, ar_geq, ar_eql, ar_neq, asB_b, un_not, un_notd, max_i, min_i, Bool.not_true, Bool.not_false, decide_true, decide_false, decide_not, reduceIte, if_true, if_false, Bool.false_eq_true, not_true_eq_false, not_false_eq_true, Bool.true_eq_false]
  rw [ar_add, wrap64 (by omega) (by omega)]
  simp -implicitDefEqProofs only [Option.bind_some, W_some, W_nw, W_nws, cnd_true, cnd_false, gdo_tt, gdo_ff, gdo_tf, gdo_ft, ar_lss, ar_leq, ar_gtr, ar_geq, ar_eql, ar_neq, asB_b, un_not, un_notd, max_i, min_i, Bool.not_true, Bool.not_false, decide_true, decide_false, decide_not, reduceIte, if_true, if_false, Bool.false_eq_true, not_true_eq_false, not_false_eq_true, Bool.true_eq_false]

end Go.Fx.Try
