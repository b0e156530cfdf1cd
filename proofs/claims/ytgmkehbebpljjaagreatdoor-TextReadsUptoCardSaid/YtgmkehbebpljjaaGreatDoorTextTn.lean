/- The reference's bytes of a program: which error there is. -/
import Derived.Test.YtgmkehbebpljjaaGreatDoorTextN
import Derived.Test.YtgmkehbebpljjaaGreatDoorDecQ
import Derived.Test.YtgmkehbebpljjaaGreatDoorTextO
namespace Go.Fx.Tryz
open Go Go.Fx
set_option linter.unusedSimpArgs false
set_option linter.unusedVariables false

theorem roperands_ok (op : Int) (m : Mem) : Call S1 tab 37 [.int .i64 op] m = some (.tuple #[.int .i64 (opn op).1, .bool (opn op).2], m) := by
  rw [C37]
  by_cases h : 0 < op ∧ op ≤ 19
  · have hc : op = 1 ∨ op = 2 ∨ op = 3 ∨ op = 4 ∨ op = 5 ∨ op = 6 ∨ op = 7 ∨ op = 8 ∨ op = 9 ∨ op = 10 ∨ op = 11 ∨ op = 12 ∨ op = 13 ∨ op = 14 ∨ op = 15 ∨ op = 16 ∨ op = 17 ∨ op = 18 ∨ op = 19 := by omega
    rcases hc with rfl | rfl | rfl | rfl | rfl | rfl | rfl | rfl | rfl | rfl | rfl | rfl | rfl | rfl | rfl | rfl | rfl | rfl | rfl <;>
      (simp -implicitDefEqProofs only [st0, newVal, reduceIte, P37_0_eq, P37_1_eq, P37_2_eq, Int.reduceEq]; rfl)
  · have n1 : ¬ op = 1 := by omega
    have n2 : ¬ op = 2 := by omega
    have n3 : ¬ op = 3 := by omega
    have n4 : ¬ op = 4 := by omega
    have n5 : ¬ op = 5 := by omega
    have n6 : ¬ op = 6 := by omega
    have n7 : ¬ op = 7 := by omega
    have n8 : ¬ op = 8 := by omega
    have n9 : ¬ op = 9 := by omega
    have n10 : ¬ op = 10 := by omega
    have n11 : ¬ op = 11 := by omega
    have n12 : ¬ op = 12 := by omega
    have n13 : ¬ op = 13 := by omega
    have n14 : ¬ op = 14 := by omega
    have n15 : ¬ op = 15 := by omega
    have n16 : ¬ op = 16 := by omega
    have n17 : ¬ op = 17 := by omega
    have n18 : ¬ op = 18 := by omega
    have n19 : ¬ op = 19 := by omega
    have ho : opn op = (0, false) := by unfold opn; rw [if_pos (by omega)]
    rw [ho]
    simp -implicitDefEqProofs only [st0, newVal, reduceIte, P37_0_eq, P37_1_eq, P37_2_eq, n1, n2, n3, n4, n5, n6, n7, n8, n9, n10, n11, n12, n13, n14, n15, n16, n17, n18, n19]

theorem rval_ok (v : Va) (m : Mem) : W (Call S1 tab 57 [.agg (encVa.cells v).toArray] m) fun r m' => r = .bool (!oddV v) ∧ Upd [] m m' := by
  rw [C57]
  refine W_nw.2 ?_
  rw [cells_agg]
  have hg := Mem.get_add_self m ⟨.cells (encVa.cells v) 35, false, none⟩
  have l0 : runLoad1 (.pointer (some ⟨m.next, 0 + 0, none⟩)) (m.add ⟨.cells (encVa.cells v) 35, false, none⟩) = some (.int .i64 v.k) := load_at hg rfl
  have l1 : runLoad1 (.pointer (some ⟨m.next, 0 + 1, none⟩)) (m.add ⟨.cells (encVa.cells v) 35, false, none⟩) = some (.int .i64 v.n) := load_at hg rfl
  have l2 : runLoad1 (.pointer (some ⟨m.next, 0 + 2, none⟩)) (m.add ⟨.cells (encVa.cells v) 35, false, none⟩) = some (str v.s) := load_at hg rfl
  have f : ∀ k, runFieldAddr k (.pointer (some ⟨m.next, 0, none⟩)) = some (.pointer (some ⟨m.next, 0 + k, none⟩)) := fun k => rfl
  have hn : arith .eql (str v.s) (.string ⟨#[]⟩) = some (.bool (decide (v.s = []))) := eql_str v.s []
  unfold oddV
  by_cases h1 : v.k = 1
  · by_cases h3 : v.s = []
    · have h3' := eq_true h3
      simp -implicitDefEqProofs only [st0, newVal, reduceIte, f, l0, l1, l2, h1, hn, h3']
      exact ⟨by trivial, Upd.add _ _ _⟩
    · simp -implicitDefEqProofs only [st0, newVal, reduceIte, f, l0, l1, l2, h1, hn, h3, show ¬ (1 : Int) = 2 by decide]
      exact ⟨by trivial, Upd.add _ _ _⟩
  · by_cases h2 : v.k = 2
    · by_cases h3 : v.n = 0
      · simp -implicitDefEqProofs only [st0, newVal, reduceIte, f, l0, l1, l2, h2, hn, h3, show ¬ (2 : Int) = 1 by decide]
        exact ⟨by trivial, Upd.add _ _ _⟩
      · simp -implicitDefEqProofs only [st0, newVal, reduceIte, f, l0, l1, l2, h2, hn, h3, show ¬ (2 : Int) = 1 by decide]
        exact ⟨by trivial, Upd.add _ _ _⟩
    · simp -implicitDefEqProofs only [st0, newVal, reduceIte, f, l0, l1, l2, h1, h2, hn]
      exact ⟨by trivial, Upd.add _ _ _⟩

theorem rright_tail {i : In} {ok : Bool} {b : Nat} {m0 m : Mem} (hm : Upd [] m0 m) (hb : b < m0.next) (h : m0.get b = some ⟨.cells (encIn.cells i) 37, false, none⟩) :
    W (P35_1 (.pointer (some ⟨b, 0, none⟩)) (.bool ok) m) fun r m' => r = .bool (ok && tailOk i) ∧ Upd [] m m' := by
  have f : ∀ k o, runFieldAddr k (.pointer (some ⟨b, o, none⟩)) = some (.pointer (some ⟨b, o + k, none⟩)) := fun k o => rfl
  have hget : ∀ {m'}, Upd [] m m' → m'.get b = some ⟨.cells (encIn.cells i) 37, false, none⟩ := fun hu => by
    rw [(hm.then0 hu).same b hb (by simp)]; exact h
  have h0 := hget (Upd.refl _ m)
  have hval : runLoadN 3 (.pointer (some ⟨b, 0 + 4, none⟩)) m = some (.agg (encVa.cells i.v).toArray) := load_part h0 (by simp [encIn])
  rw [P35_1_eq]
  unfold tailOk
  cases ok with
  | false =>
    by_cases hop : i.op = 1
    · simp -implicitDefEqProofs only [st0, newVal, reduceIte, f, load_at h0 (show (encIn.cells i)[0 + 0]? = some (.int .i64 i.op) from rfl), hop, Bool.false_and]
      exact ⟨by trivial, Upd.refl _ _⟩
    · simp -implicitDefEqProofs only [st0, newVal, reduceIte, f, load_at h0 (show (encIn.cells i)[0 + 0]? = some (.int .i64 i.op) from rfl), hop, Bool.false_and]
      exact ⟨by trivial, Upd.refl _ _⟩
  | true =>
    by_cases hop : i.op = 1
    · simp -implicitDefEqProofs only [st0, newVal, reduceIte, f, load_at h0 (show (encIn.cells i)[0 + 0]? = some (.int .i64 i.op) from rfl), hop, hval, Bool.true_and]
      refine W.bind (Q := fun r m' => r = .bool (!oddV i.v) ∧ Upd [] m m') (W.bind (rval_ok i.v m) fun r m' hr => W_some.2 hr) fun r m1 ⟨hr, hu⟩ => ?_
      subst hr
      have hl := load_at (hget hu) (show (encIn.cells i)[0 + 4 + 2]? = some (str i.s) from rfl)
      cases ho : oddV i.v with
      | true =>
        simp -implicitDefEqProofs only [st0, newVal, reduceIte, ho, Bool.false_and]
        exact ⟨by trivial, hu⟩
      | false =>
        simp -implicitDefEqProofs only [st0, newVal, reduceIte, ho, f, hl, len_str, Bool.true_and]
        refine ⟨?_, hu⟩
        congr 1
        apply decide_eq_decide.2
        omega
    · have hz : afill [.int .i64 0, .int .i64 0, .string ⟨#[]⟩] [] = some (encVa.cells zeroVa) := rfl
      simp -implicitDefEqProofs only [st0, newVal, reduceIte, f, load_at h0 (show (encIn.cells i)[0 + 0]? = some (.int .i64 i.op) from rfl), hop, hval, hz, eq_va, Bool.true_and]
      exact ⟨by trivial, Upd.refl _ _⟩

theorem rright_loop {i : In} {ok : Bool} {b : Nat} {m0 : Mem} (hb : b < m0.next) (h : m0.get b = some ⟨.cells (encIn.cells i) 37, false, none⟩) {n : Int} {sv : Value} {m : Mem} (hm : Upd [] m0 m) (hT : TSl (encInt .i64) m sv [i.a, i.b, i.c]) :
    ∀ (d k : Nat), k + d = 3 → W (P35_0 (.pointer (some ⟨b, 0, none⟩)) (.int .i64 n) (.bool ok) sv (.int .i64 (k : Int)) m) fun r m' => r = .bool (ok && argsOk n k ([i.a, i.b, i.c].drop k) && tailOk i) ∧ Upd [] m m' ∨ (argsOk n k ([i.a, i.b, i.c].drop k) = false ∧ r = .bool false ∧ Upd [] m m') := by
  intro d
  induction d with
  | zero =>
    intro k hk
    obtain rfl : k = 3 := by omega
    rw [P35_0_eq]
    have : ¬ (((3 : Nat) : Int) < 3) := by decide
    simp -implicitDefEqProofs only [st0, newVal, reduceIte, this]
    exact (rright_tail hm hb h).mono fun r m' ⟨q1, q2⟩ => .inl ⟨by rw [q1]; simp [argsOk], q2⟩
  | succ d ih =>
    intro k hk
    have hlt : (k : Int) < 3 := by omega
    have hk' : k < [i.a, i.b, i.c].length := by simp; omega
    have hx : [i.a, i.b, i.c][k]? = some [i.a, i.b, i.c][k] := List.getElem?_eq_getElem hk'
    have hdrop : [i.a, i.b, i.c].drop k = [i.a, i.b, i.c][k] :: [i.a, i.b, i.c].drop (k + 1) := List.drop_eq_getElem_cons hk'
    rw [hdrop]
    generalize [i.a, i.b, i.c][k] = x at hx
    obtain ⟨p, p1, _, p2⟩ := hT.index .i64 hx
    have p1 : runIndexS 1 sv (.int .i64 (k : Int)) = some p := p1
    have p2 : runLoad1 p m = some (.int .i64 x) := p2 _ rfl
    have ihk := ih (k + 1) (by omega)
    have hs := i64_succ (show k < 2 ^ 62 by omega)
    rw [P35_0_eq]
    by_cases h0 : x < 0
    · have hf : fitB x = false := by simp [fitB]; omega
      simp -implicitDefEqProofs only [st0, newVal, reduceIte, hlt, p1, p2, h0, argsOk, hf, Bool.false_and]
      exact .inr ⟨by trivial, by trivial, Upd.refl _ _⟩
    · by_cases h1 : 255 < x
      · have hf : fitB x = false := by simp [fitB]; omega
        simp -implicitDefEqProofs only [st0, newVal, reduceIte, hlt, p1, p2, h0, h1, argsOk, hf, Bool.false_and]
        exact .inr ⟨by trivial, by trivial, Upd.refl _ _⟩
      · have hf : fitB x = true := by simp [fitB]; omega
        by_cases h2 : n ≤ (k : Int)
        · have hkn : ¬ ((k : Int) < n) := by omega
          by_cases h3 : x = 0
          · have h3' := eq_true h3
            simp -implicitDefEqProofs only [st0, newVal, reduceIte, hlt, p1, p2, h0, h1, h2, h3', hs]
            have ea : argsOk n k (x :: [i.a, i.b, i.c].drop (k + 1)) = argsOk n (k + 1) ([i.a, i.b, i.c].drop (k + 1)) := by subst h3; simp [argsOk, hf]
            rw [ea]; exact ihk
          · simp -implicitDefEqProofs only [st0, newVal, reduceIte, hlt, p1, p2, h0, h1, h2, h3]
            exact .inr ⟨by simp [argsOk, hkn, h3], by trivial, Upd.refl _ _⟩
        · have hkn : (k : Int) < n := by omega
          simp -implicitDefEqProofs only [st0, newVal, reduceIte, hlt, p1, p2, h0, h1, h2, hs]
          have ea : argsOk n k (x :: [i.a, i.b, i.c].drop (k + 1)) = argsOk n (k + 1) ([i.a, i.b, i.c].drop (k + 1)) := by simp [argsOk, hf, hkn]
          rw [ea]; exact ihk

theorem ef3 (i : In) : afill [.int .i64 0, .int .i64 0, .int .i64 0] [(0, 1, .int .i64 i.a), (1, 1, .int .i64 i.b), (2, 1, .int .i64 i.c)] = some ((encInt .i64).flat [i.a, i.b, i.c]) := by rfl

theorem rright_ok (i : In) (m : Mem) : W (Call S1 tab 35 [.agg (encIn.cells i).toArray] m) fun r m' => r = .bool (rightB i) ∧ Upd [] m m' := by
  rw [C35]
  refine W_nw.2 ?_
  rw [cells_agg]
  have f : ∀ k, runFieldAddr k (.pointer (some ⟨m.next, 0, none⟩)) = some (.pointer (some ⟨m.next, 0 + k, none⟩)) := fun k => rfl
  generalize hm1 : m.add ⟨.cells (encIn.cells i) 37, false, none⟩ = m1
  have hu1 : Upd [] m m1 := hm1 ▸ Upd.add _ _ _
  have hn1 : m1.next = m.next + 1 := by rw [← hm1]; rfl
  have hg1 : m1.get m.next = some ⟨.cells (encIn.cells i) 37, false, none⟩ := by rw [← hm1]; exact Mem.get_add_self ..
  have e0 : runExtract 0 (.tuple #[.int .i64 (opn i.op).1, .bool (opn i.op).2]) = some (.int .i64 (opn i.op).1) := rfl
  have e1 : runExtract 1 (.tuple #[.int .i64 (opn i.op).1, .bool (opn i.op).2]) = some (.bool (opn i.op).2) := rfl
  simp -implicitDefEqProofs only [st0, newVal, reduceIte, f, load_at hg1 (show (encIn.cells i)[0 + 0]? = some (.int .i64 i.op) from rfl), roperands_ok, e0, e1, load_at hg1 (show (encIn.cells i)[0 + 1]? = some (.int .i64 i.a) from rfl), load_at hg1 (show (encIn.cells i)[0 + 2]? = some (.int .i64 i.b) from rfl), load_at hg1 (show (encIn.cells i)[0 + 3]? = some (.int .i64 i.c) from rfl), ef3]
  have hT := (TAp.fresh (E := encInt .i64) (e := 3) m1 [i.a, i.b, i.c]).tsl
  have hu2 : Upd [] m1 (m1.add ⟨.cells ((encInt .i64).flat [i.a, i.b, i.c]) 3, false, none⟩) := Upd.add _ _ _
  refine (rright_loop (i := i) (ok := (opn i.op).2) (m0 := m1) (by omega) hg1 hu2 hT 3 0 rfl).mono fun r m' hr => ?_
  unfold rightB
  rw [List.drop_zero] at hr
  rcases hr with ⟨h1, h2⟩ | ⟨h1, h2, h3⟩
  · exact ⟨h1, (hu1.then0 hu2).then0 h2⟩
  · exact ⟨by rw [h2, h1]; simp, (hu1.then0 hu2).then0 h3⟩

/- bytes -/
theorem convu8' (k : IntKind) (x : Int) : ∃ b : UInt8, runConv .u8 (.int k x) = some (.int .u8 (b.toNat : Int)) := by
  obtain ⟨b, hb⟩ := convu8 x
  exact ⟨b, by rw [← hb]; rfl⟩
theorem flatB_set (l : List UInt8) (i : Nat) (b : UInt8) : (encB.flat l).set i (.int .u8 (b.toNat : Int)) = encB.flat (l.set i b) := by
  have e : ∀ l : List UInt8, encB.flat l = l.map fun b => Value.int .u8 (b.toNat : Int) := by
    intro l
    simp only [Enc.flat, encB]
    induction l with
    | nil => rfl
    | cons a l ih => simp at ih ⊢; exact ih
  rw [e, e, List.map_set]
theorem rnum_loop {k : Nat} {b : Nat} (hk : k ≤ 8) : ∀ (d : Nat) (x : Int) (m : Mem) (l : List UInt8), d ≤ k → l.length = k → b < m.next → m.get b = some ⟨.cells (encB.flat l) 5, false, none⟩ →
    W (P58_0 (.int .u64 x) (.slice (some ⟨b, 0, none⟩) k k) (.int .i64 ((d : Int) - 1)) m) fun r m' => (∃ s, r = str s ∧ s.length = k) ∧ Upd [b] m m' := by
  intro d
  induction d with
  | zero =>
    intro x m l hd hl hb hg
    have h1 : ¬ ((0 : Int) ≤ ((0 : Nat) : Int) - 1) := by omega
    have hT : TAp encB 5 m (.slice (some ⟨b, 0, none⟩) k k) l := .inr ⟨b, k, [], none, by rw [hl], hb, by rw [List.append_nil]; exact hg, .inl rfl, by rw [hl]; simp, by omega⟩
    rw [P58_0_eq]
    simp -implicitDefEqProofs only [st0, newVal, reduceIte, h1, b2s_ok hT.tsl]
    exact ⟨⟨l, rfl, hl⟩, Upd.refl _ _⟩
  | succ d ih =>
    intro x m l hd hl hb hg
    have h1 : (0 : Int) ≤ ((d + 1 : Nat) : Int) - 1 := by omega
    have e0 : ((d + 1 : Nat) : Int) - 1 = (d : Int) := by simp
    obtain ⟨y, hy⟩ : ∃ y, arith .rem (.int .u64 x) (.int .u64 256) = some (.int .u64 y) := ⟨_, rfl⟩
    obtain ⟨z, hz⟩ : ∃ z, arith .quo (.int .u64 x) (.int .u64 256) = some (.int .u64 z) := ⟨_, rfl⟩
    obtain ⟨c, hc⟩ := convu8' .u64 y
    have hi : runIndexS 1 (.slice (some ⟨b, 0, none⟩) k k) (.int .i64 (d : Int)) = some (.pointer (some ⟨b, 0 + d * 1, none⟩)) := by
      simp only [runIndexS]
      rw [if_pos (by omega), Int.toNat_natCast]
    have hfl : (encB.flat l).length = k := by rw [encB.flat_len, hl, encB_size, Nat.mul_one]
    have hs := store_at hg (o := 0 + d * 1) (v := .int .u8 (c.toNat : Int)) (by omega) rfl rfl
    have e3 : arith .sub (.int .i64 (d : Int)) (.int .i64 1) = some (.int .i64 ((d : Int) - 1)) := i64_sub (by omega) (by omega)
    rw [P58_0_eq]
    rw [e0] at h1 ⊢
    simp -implicitDefEqProofs only [st0, newVal, reduceIte, h1, hy, hz, hc, hi, hs, e3]
    refine (ih z (m.put b ⟨.cells ((encB.flat l).set (0 + d * 1) (.int .u8 (c.toNat : Int))) 5, false, none⟩) (l.set (0 + d * 1) c) (by omega) (by simp [hl]) hb (by rw [Mem.get_put_self, flatB_set])).mono fun r m' ⟨q1, q2⟩ => ⟨q1, (Upd.put (fp := [b]) _ _ (by simp)).trans q2⟩
theorem rnum_ok (x : Int) (k : Nat) (h1 : 1 ≤ k) (h8 : k ≤ 8) (m : Mem) : W (Call S1 tab 58 [.int .u64 x, .int .i64 (k : Int)] m) fun r m' => (∃ s, r = str s ∧ s.length = k) ∧ Upd [] m m' := by
  rw [C58, C74]
  have e1 : foldV max2 (.int .i64 (k : Int)) [.int .i64 1] = some (.int .i64 (k : Int)) := by rw [max_i]; congr 2; split <;> omega
  have e2 : foldV min2 (.int .i64 (k : Int)) [.int .i64 8] = some (.int .i64 (k : Int)) := by rw [min_i]; congr 2; split <;> omega
  have e3 : arith .sub (.int .i64 (k : Int)) (.int .i64 1) = some (.int .i64 ((k : Int) - 1)) := i64_sub (by omega) (by omega)
  have e4 : runMakeS 5 1 [.int .u8 0] (.int .i64 (k : Int)) (.int .i64 (k : Int)) m = some (.slice (some ⟨m.next, 0, none⟩) k k, m.add ⟨.cells (List.replicate k [Value.int .u8 0]).flatten 5, false, none⟩) := by
    simp only [runMakeS]
    rw [if_pos (by omega)]
    simp
  have e5 : (List.replicate k [Value.int .u8 0]).flatten = encB.flat (List.replicate k 0) := by
    clear e1 e2 e3 e4 h1 h8
    induction k with
    | zero => rfl
    | succ n ih => rw [List.replicate_succ, List.replicate_succ, encB.flat_cons, List.flatten_cons, ih]; rfl
  simp -implicitDefEqProofs only [st0, newVal, reduceIte, e1, e2, e3, e4]
  rw [e5]
  refine (rnum_loop h8 k x _ (List.replicate k 0) (Nat.le_refl _) (by simp) (by simp) (Mem.get_add_self ..)).mono fun r m' ⟨q1, q2⟩ => ⟨q1, (Upd.add [] m _).then' q2 (fun b hb => by simp at hb; exact .inr (by omega))⟩
theorem rstr_ok (s : List UInt8) (hs : s.length ≤ 2 ^ 30) (m : Mem) : W (Call S1 tab 59 [str s] m) fun r m' => (∃ t, r = str t ∧ t.length ≤ 256) ∧ Upd [] m m' := by
  have e1 : (if (255 : Int) < (s.length : Int) then (255 : Int) else (s.length : Int)) = ((min s.length 255 : Nat) : Int) := by split <;> omega
  rw [C59]
  simp -implicitDefEqProofs only [st0, newVal, reduceIte, len_str, e1, conv_u64 (a := ((min s.length 255 : Nat) : Int)) .i64 (by omega) (by omega)]
  refine W.bind (rnum_ok _ 1 (by decide) (by decide) m) fun r m1 ⟨⟨t, hr, ht⟩, hu⟩ => ?_
  subst hr
  have e2 := slice_str_upto (l := s) (b := min s.length 255) (Nat.min_le_left ..) .i64
  have hl : (s.take (min s.length 255)).length ≤ 255 := by rw [List.length_take]; omega
  have e3 : arith .add (str t) (str (s.take (min s.length 255))) = some (str (t ++ s.take (min s.length 255))) := cat_str (by omega)
  simp -implicitDefEqProofs only [st0, newVal, reduceIte, e2, e3]
  exact ⟨⟨_, rfl, by rw [List.length_append]; omega⟩, hu⟩
end Go.Fx.Tryz
/- The reference's names. -/
namespace Go.Fx.Tryz
open Go Go.Fx
set_option linter.unusedSimpArgs false
set_option linter.unusedVariables false

/- names -/
theorem rnames_ok (m : Mem) : Call S1 tab 21 [] m = some (.slice (some ⟨m.next, 0, none⟩) 19 19, m.add ⟨.cells (encS.flat opNames.tail) 9, false, none⟩) := by
  rw [C21]
  rfl
theorem rname_ok (op : Int) (hop : I64 op) (m : Mem) : W (Call S1 tab 9 [.int .i64 op] m) fun r m' => r = str (nameP op) ∧ Upd [] m m' := by
  rw [C9]
  have hlen : ∀ b : Nat, runLenSlice (.slice (some ⟨b, 0, none⟩) 19 19) = some (.int .i64 19) := fun b => rfl
  have hlen' : opNames.tail.length = 19 := rfl
  unfold nameP
  by_cases h0 : op < 1
  · simp -implicitDefEqProofs only [st0, newVal, reduceIte, h0]
    refine ⟨?_, Upd.refl _ _⟩
    by_cases h1 : op < 0
    · rw [if_pos (.inl h1)]
    · obtain rfl : op = 0 := by omega
      rfl
  · by_cases h1 : 19 < op
    · simp -implicitDefEqProofs only [st0, newVal, reduceIte, h0, h1, rnames_ok, hlen]
      exact ⟨by rw [if_pos (.inr (by omega))], Upd.add _ _ _⟩
    · simp -implicitDefEqProofs only [st0, newVal, reduceIte, h0, h1, rnames_ok, hlen]
      have hu1 : Upd [] m (m.add ⟨.cells (encS.flat opNames.tail) 9, false, none⟩) := Upd.add _ _ _
      generalize m.add ⟨.cells (encS.flat opNames.tail) 9, false, none⟩ = m1 at hu1
      have hT := (TAp.fresh (E := encS) (e := 9) m1 opNames.tail).tsl
      have hu2 : Upd [] m1 (m1.add ⟨.cells (encS.flat opNames.tail) 9, false, none⟩) := Upd.add _ _ _
      obtain ⟨k, rfl⟩ : ∃ k : Nat, op = (k : Int) + 1 := ⟨(op - 1).toNat, by omega⟩
      have hk : k < opNames.tail.length := by omega
      have e1 : arith .sub (.int .i64 ((k : Int) + 1)) (.int .i64 1) = some (.int .i64 (k : Int)) := by rw [i64_sub (by omega) (by omega)]; congr 2; omega
      obtain ⟨p, p1, p2⟩ := idx_s hT hk
      have p1 : runIndexS 1 (.slice (some ⟨m1.next, 0, none⟩) 19 19) (.int .i64 (k : Int)) = some p := p1
      simp -implicitDefEqProofs only [st0, newVal, reduceIte, e1, p1, p2]
      refine ⟨?_, hu1.then0 hu2⟩
      rw [if_neg (by omega)]
      have e2 : ((k : Int) + 1).toNat = k + 1 := by omega
      have e3 : opNames[k + 1]? = some opNames.tail[k] := by
        rw [← List.getElem?_eq_getElem hk, List.getElem?_tail]
      rw [e2, e3]
      rfl

theorem digit_ok {k : Nat} (h : k < 16) (m : Mem) : Call S1 tab 60 [.int .i64 (k : Int)] m = some (str [hexd k], m) := by
  rw [C60]
  have e1 := i64_succ (show k < 2 ^ 62 by omega)
  have e2 : runSliceStr (.string ⟨#[48, 49, 50, 51, 52, 53, 54, 55, 56, 57, 97, 98, 99, 100, 101, 102]⟩) (some (.int .i64 (k : Int))) (some (.int .i64 ((k + 1 : Nat) : Int))) = some (str ((hexTab.drop k).take (k + 1 - k))) := slice_str (l := hexTab) (by omega) (by show k + 1 ≤ 16; omega) .i64 .i64
  have e3 : ∀ k : Fin 16, (hexTab.drop k.val).take (k.val + 1 - k.val) = [hexd k.val] := by decide
  simp -implicitDefEqProofs only [st0, newVal, reduceIte, e1, e2, e3 ⟨k, h⟩]
end Go.Fx.Tryz
