/- The reference's text of a program; a program's text is what the document says. -/
import Derived.Test.YtgmkehbebpljjaaGreatDoorTextT
import Derived.Test.YtgmkehbebpljjaaGreatDoorTextO
namespace Go.Fx.Tryz
open Go Go.Fx
set_option linter.unusedSimpArgs false
set_option linter.unusedVariables false

/- bytes of an instruction: some, not many -/
theorem rone_tail {i : In} {b : Nat} {s0 : List UInt8} (hs : i.s.length ≤ 2 ^ 30) (h0 : s0.length ≤ 2 ^ 40) {m : Mem} (hb : b < m.next) (h : m.get b = some ⟨.cells (encIn.cells i) 37, false, none⟩) :
    W (P36_1 (.pointer (some ⟨b, 0, none⟩)) (str s0) m) fun r m' => (∃ s, r = str s ∧ s.length ≤ s0.length + 300) ∧ Upd [] m m' := by
  have f : ∀ k o, runFieldAddr k (.pointer (some ⟨b, o, none⟩)) = some (.pointer (some ⟨b, o + k, none⟩)) := fun k o => rfl
  rw [P36_1_eq]
  by_cases hop : i.op = 1
  · obtain ⟨c1, _, hc1⟩ := convu i.k
    obtain ⟨c2, _, hc2⟩ := convu i.n
    simp -implicitDefEqProofs only [Option.bind_some, W_some, W_nw, W_nws, W_nwAt, newVal, cnd_true, cnd_false, gdo_tt, gdo_ff, gdo_tf, gdo_ft, gdo_u, ar_lss, ar_leq, ar_gtr, ar_geq, ar_eql, ar_neq, asB_b, un_not, un_notd, max_i, min_i, Bool.not_true, Bool.not_false, decide_true, decide_false, decide_not, reduceIte, if_true, if_false, Bool.false_eq_true, not_true_eq_false, not_false_eq_true, Bool.true_eq_false, f, load_at h (show (encIn.cells i)[0 + 0]? = some (.int .i64 i.op) from rfl), hop, load_at h (show (encIn.cells i)[0 + 4 + 0]? = some (.int .i64 i.k) from rfl), hc1]
    refine W.bind (rnum_ok (c1 : Int) 1 (by decide) (by decide) m) fun r m1 ⟨⟨t, hr, ht⟩, hu⟩ => ?_
    subst hr
    have h1 := (hu.same b hb (by simp)).trans h
    have a1 : arith .add (str s0) (str t) = some (str (s0 ++ t)) := cat_str (by omega)
    by_cases hk : i.k = 1
    · simp -implicitDefEqProofs only [Option.bind_some, W_some, W_nw, W_nws, W_nwAt, newVal, cnd_true, cnd_false, gdo_tt, gdo_ff, gdo_tf, gdo_ft, gdo_u, ar_lss, ar_leq, ar_gtr, ar_geq, ar_eql, ar_neq, asB_b, un_not, un_notd, max_i, min_i, Bool.not_true, Bool.not_false, decide_true, decide_false, decide_not, reduceIte, if_true, if_false, Bool.false_eq_true, not_true_eq_false, not_false_eq_true, Bool.true_eq_false, f, a1, load_at h1 (show (encIn.cells i)[0 + 4 + 0]? = some (.int .i64 i.k) from rfl), hk, load_at h1 (show (encIn.cells i)[0 + 4 + 1]? = some (.int .i64 i.n) from rfl), hc2]
      refine W.bind (rnum_ok (c2 : Int) 8 (by decide) (by decide) m1) fun r m2 ⟨⟨t2, hr, ht2⟩, hu2⟩ => ?_
      subst hr
      have a2 : arith .add (str (s0 ++ t)) (str t2) = some (str (s0 ++ t ++ t2)) := cat_str (by rw [List.length_append]; omega)
      simp -implicitDefEqProofs only [Option.bind_some, W_some, W_nw, W_nws, W_nwAt, newVal, cnd_true, cnd_false, gdo_tt, gdo_ff, gdo_tf, gdo_ft, gdo_u, ar_lss, ar_leq, ar_gtr, ar_geq, ar_eql, ar_neq, asB_b, un_not, un_notd, max_i, min_i, Bool.not_true, Bool.not_false, decide_true, decide_false, decide_not, reduceIte, if_true, if_false, Bool.false_eq_true, not_true_eq_false, not_false_eq_true, Bool.true_eq_false, a2]
      exact ⟨⟨_, rfl, by simp only [List.length_append]; omega⟩, hu.then0 hu2⟩
    · simp -implicitDefEqProofs only [Option.bind_some, W_some, W_nw, W_nws, W_nwAt, newVal, cnd_true, cnd_false, gdo_tt, gdo_ff, gdo_tf, gdo_ft, gdo_u, ar_lss, ar_leq, ar_gtr, ar_geq, ar_eql, ar_neq, asB_b, un_not, un_notd, max_i, min_i, Bool.not_true, Bool.not_false, decide_true, decide_false, decide_not, reduceIte, if_true, if_false, Bool.false_eq_true, not_true_eq_false, not_false_eq_true, Bool.true_eq_false, f, a1, load_at h1 (show (encIn.cells i)[0 + 4 + 0]? = some (.int .i64 i.k) from rfl), hk, load_at h1 (show (encIn.cells i)[0 + 4 + 2]? = some (str i.s) from rfl)]
      refine W.bind (rstr_ok i.s hs m1) fun r m2 ⟨⟨t2, hr, ht2⟩, hu2⟩ => ?_
      subst hr
      have a2 : arith .add (str (s0 ++ t)) (str t2) = some (str (s0 ++ t ++ t2)) := cat_str (by rw [List.length_append]; omega)
      simp -implicitDefEqProofs only [Option.bind_some, W_some, W_nw, W_nws, W_nwAt, newVal, cnd_true, cnd_false, gdo_tt, gdo_ff, gdo_tf, gdo_ft, gdo_u, ar_lss, ar_leq, ar_gtr, ar_geq, ar_eql, ar_neq, asB_b, un_not, un_notd, max_i, min_i, Bool.not_true, Bool.not_false, decide_true, decide_false, decide_not, reduceIte, if_true, if_false, Bool.false_eq_true, not_true_eq_false, not_false_eq_true, Bool.true_eq_false, a2]
      exact ⟨⟨_, rfl, by simp only [List.length_append]; omega⟩, hu.then0 hu2⟩
  · simp -implicitDefEqProofs only [Option.bind_some, W_some, W_nw, W_nws, W_nwAt, newVal, cnd_true, cnd_false, gdo_tt, gdo_ff, gdo_tf, gdo_ft, gdo_u, ar_lss, ar_leq, ar_gtr, ar_geq, ar_eql, ar_neq, asB_b, un_not, un_notd, max_i, min_i, Bool.not_true, Bool.not_false, decide_true, decide_false, decide_not, reduceIte, if_true, if_false, Bool.false_eq_true, not_true_eq_false, not_false_eq_true, Bool.true_eq_false, f, load_at h (show (encIn.cells i)[0 + 0]? = some (.int .i64 i.op) from rfl), hop]
    exact ⟨⟨s0, rfl, by omega⟩, Upd.refl _ _⟩
theorem rone_loop {i : In} {b n : Nat} {sv : Value} (hs : i.s.length ≤ 2 ^ 30) (hn : n ≤ 3) (hsv : ∀ b ∈ blkOf sv, True) : ∀ (d k : Nat) (s0 : List UInt8) (m : Mem), k + d = n → s0.length ≤ 2 ^ 39 + k → b < m.next → m.get b = some ⟨.cells (encIn.cells i) 37, false, none⟩ → TSl (encInt .i64) m sv [i.a, i.b, i.c] → (∀ b ∈ blkOf sv, b < m.next) →
    W (P36_0 (.pointer (some ⟨b, 0, none⟩)) (.int .i64 (n : Int)) (str s0) sv (.int .i64 (k : Int)) m) fun r m' => (∃ s, r = str s ∧ s.length ≤ s0.length + d + 300) ∧ Upd [] m m' := by
  intro d
  induction d with
  | zero =>
    intro k s0 m hk h0 hb h hT hTb
    obtain rfl : k = n := by omega
    rw [P36_0_eq]
    simp -implicitDefEqProofs only [Option.bind_some, W_some, W_nw, W_nws, W_nwAt, newVal, cnd_true, cnd_false, gdo_tt, gdo_ff, gdo_tf, gdo_ft, gdo_u, ar_lss, ar_leq, ar_gtr, ar_geq, ar_eql, ar_neq, asB_b, un_not, un_notd, max_i, min_i, Bool.not_true, Bool.not_false, decide_true, decide_false, decide_not, reduceIte, if_true, if_false, Bool.false_eq_true, not_true_eq_false, not_false_eq_true, Bool.true_eq_false, Int.lt_irrefl]
    exact (rone_tail hs (by omega) hb h).mono fun r m' ⟨⟨s, q1, q2⟩, q3⟩ => ⟨⟨s, q1, by omega⟩, q3⟩
  | succ d ih =>
    intro k s0 m hk h0 hb h hT hTb
    have hlt : (k : Int) < (n : Int) := by omega
    have hk' : k < [i.a, i.b, i.c].length := by simp; omega
    obtain ⟨p, p1, _, p2⟩ := hT.index .i64 (List.getElem?_eq_getElem hk')
    generalize [i.a, i.b, i.c][k] = x at p2
    have p1 : runIndexS 1 sv (.int .i64 (k : Int)) = some p := p1
    have p2 : runLoad1 p m = some (.int .i64 x) := p2 _ rfl
    obtain ⟨c1, _, hc1⟩ := convu x
    rw [P36_0_eq]
    simp -implicitDefEqProofs only [Option.bind_some, W_some, W_nw, W_nws, W_nwAt, newVal, cnd_true, cnd_false, gdo_tt, gdo_ff, gdo_tf, gdo_ft, gdo_u, ar_lss, ar_leq, ar_gtr, ar_geq, ar_eql, ar_neq, asB_b, un_not, un_notd, max_i, min_i, Bool.not_true, Bool.not_false, decide_true, decide_false, decide_not, reduceIte, if_true, if_false, Bool.false_eq_true, not_true_eq_false, not_false_eq_true, Bool.true_eq_false, hlt, p1, p2, hc1]
    refine W.bind (rnum_ok (c1 : Int) 1 (by decide) (by decide) m) fun r m1 ⟨⟨t, hr, ht⟩, hu⟩ => ?_
    subst hr
    have a1 : arith .add (str s0) (str t) = some (str (s0 ++ t)) := cat_str (by omega)
    simp -implicitDefEqProofs only [Option.bind_some, W_some, W_nw, W_nws, W_nwAt, newVal, cnd_true, cnd_false, gdo_tt, gdo_ff, gdo_tf, gdo_ft, gdo_u, ar_lss, ar_leq, ar_gtr, ar_geq, ar_eql, ar_neq, asB_b, un_not, un_notd, max_i, min_i, Bool.not_true, Bool.not_false, decide_true, decide_false, decide_not, reduceIte, if_true, if_false, Bool.false_eq_true, not_true_eq_false, not_false_eq_true, Bool.true_eq_false, a1, i64_succ (show k < 2 ^ 62 by omega)]
    refine (ih (k + 1) (s0 ++ t) m1 (by omega) (by rw [List.length_append]; omega) (Nat.lt_of_lt_of_le hb hu.next) ((hu.same b hb (by simp)).trans h) (hT.upd hu (fun b hh => ⟨hTb b hh, by simp⟩)) (fun b hh => Nat.lt_of_lt_of_le (hTb b hh) hu.next)).mono fun r m' ⟨⟨s, q1, q2⟩, q3⟩ => ⟨⟨s, q1, by rw [List.length_append] at q2; omega⟩, hu.then0 q3⟩
theorem rone_ok (i : In) (hs : i.s.length ≤ 2 ^ 30) (m : Mem) : W (Call S1 tab 36 [.agg (encIn.cells i).toArray] m) fun r m' => (∃ s, r = str s ∧ s.length ≤ 310) ∧ Upd [] m m' := by
  rw [C36]
  refine W_nw.2 ?_
  rw [cells_agg]
  have f : ∀ k, runFieldAddr k (.pointer (some ⟨m.next, 0, none⟩)) = some (.pointer (some ⟨m.next, 0 + k, none⟩)) := fun k => rfl
  generalize hm1 : m.add ⟨.cells (encIn.cells i) 37, false, none⟩ = m1
  have hu1 : Upd [] m m1 := hm1 ▸ Upd.add _ _ _
  have hn1 : m1.next = m.next + 1 := by rw [← hm1]; rfl
  have hg1 : m1.get m.next = some ⟨.cells (encIn.cells i) 37, false, none⟩ := by rw [← hm1]; exact Mem.get_add_self ..
  obtain ⟨n, hn, hn3⟩ := opn_nat i.op
  have e0 : runExtract 0 (.tuple #[.int .i64 (opn i.op).1, .bool (opn i.op).2]) = some (.int .i64 (opn i.op).1) := rfl
  have e1 : runExtract 1 (.tuple #[.int .i64 (opn i.op).1, .bool (opn i.op).2]) = some (.bool (opn i.op).2) := rfl
  obtain ⟨c1, _, hc1⟩ := convu i.op
  simp -implicitDefEqProofs only [Option.bind_some, W_some, W_nw, W_nws, W_nwAt, newVal, cnd_true, cnd_false, gdo_tt, gdo_ff, gdo_tf, gdo_ft, gdo_u, ar_lss, ar_leq, ar_gtr, ar_geq, ar_eql, ar_neq, asB_b, un_not, un_notd, max_i, min_i, Bool.not_true, Bool.not_false, decide_true, decide_false, decide_not, reduceIte, if_true, if_false, Bool.false_eq_true, not_true_eq_false, not_false_eq_true, Bool.true_eq_false, f, load_at hg1 (show (encIn.cells i)[0 + 0]? = some (.int .i64 i.op) from rfl), roperands_ok, e0, e1, hc1]
  rw [hn]
  refine W.bind (rnum_ok (c1 : Int) 1 (by decide) (by decide) m1) fun r m2 ⟨⟨t, hr, ht⟩, hu2⟩ => ?_
  subst hr
  have hg2 := (hu2.same m.next (by omega) (by simp)).trans hg1
  simp -implicitDefEqProofs only [Option.bind_some, W_some, W_nw, W_nws, W_nwAt, newVal, cnd_true, cnd_false, gdo_tt, gdo_ff, gdo_tf, gdo_ft, gdo_u, ar_lss, ar_leq, ar_gtr, ar_geq, ar_eql, ar_neq, asB_b, un_not, un_notd, max_i, min_i, Bool.not_true, Bool.not_false, decide_true, decide_false, decide_not, reduceIte, if_true, if_false, Bool.false_eq_true, not_true_eq_false, not_false_eq_true, Bool.true_eq_false, f, load_at hg2 (show (encIn.cells i)[0 + 1]? = some (.int .i64 i.a) from rfl), load_at hg2 (show (encIn.cells i)[0 + 2]? = some (.int .i64 i.b) from rfl), load_at hg2 (show (encIn.cells i)[0 + 3]? = some (.int .i64 i.c) from rfl), ef3]
  have hT := TAp.fresh (E := encInt .i64) (e := 3) m2 [i.a, i.b, i.c]
  have hu3 : Upd [] m2 (m2.add ⟨.cells ((encInt .i64).flat [i.a, i.b, i.c]) 3, false, none⟩) := Upd.add _ _ _
  have hn2 := hu2.next
  refine (rone_loop (i := i) (n := n) hs hn3 (fun _ _ => trivial) n 0 t _ (by omega) (by omega) (Nat.lt_of_lt_of_le (show m.next < m2.next by omega) hu3.next) ((hu3.same m.next (by omega) (by simp)).trans hg2) hT.tsl hT.lt).mono fun r m' ⟨⟨s, q1, q2⟩, q3⟩ => ⟨⟨s, q1, by omega⟩, ((hu1.then0 hu2).then0 hu3).then0 q3⟩

theorem rcode_loop {L : List In} {sv : Value} (hL : L.length ≤ 64) (hok : ∀ x ∈ L, x.Ok) : ∀ (d i : Nat) (m : Mem) (s0 : List UInt8), i + d = L.length → TSl encIn m sv L → (∀ b ∈ blkOf sv, b < m.next) → s0.length ≤ i * 310 →
    W (P18_0 sv (str s0) (.int .i64 (i : Int)) m) fun r m' => (∃ s, r = .tuple #[str s, .int .i64 (if (L.drop i).all rightB = true then 0 else 4)]) ∧ Upd [] m m' := by
  intro d
  induction d with
  | zero =>
    intro i m s0 hd hT hb hl
    obtain rfl : i = L.length := by omega
    rw [P18_0_eq]
    simp -implicitDefEqProofs only [Option.bind_some, W_some, W_nw, W_nws, W_nwAt, newVal, cnd_true, cnd_false, gdo_tt, gdo_ff, gdo_tf, gdo_ft, gdo_u, ar_lss, ar_leq, ar_gtr, ar_geq, ar_eql, ar_neq, asB_b, un_not, un_notd, max_i, min_i, Bool.not_true, Bool.not_false, decide_true, decide_false, decide_not, reduceIte, if_true, if_false, Bool.false_eq_true, not_true_eq_false, not_false_eq_true, Bool.true_eq_false, hT.len, Int.lt_irrefl]
    exact ⟨⟨s0, by simp⟩, Upd.refl _ _⟩
  | succ d ih =>
    intro i m s0 hd hT hb hl
    have hi : i < L.length := by omega
    have hlt : (i : Int) < (L.length : Int) := by omega
    have hx : L[i]? = some L[i] := List.getElem?_eq_getElem hi
    have hxs := hok _ (List.getElem_mem hi)
    have hdrop : L.drop i = L[i] :: L.drop (i + 1) := List.drop_eq_getElem_cons hi
    rw [hdrop]
    generalize L[i] = x at hx hxs
    obtain ⟨b, off, p1, p2⟩ := hT.at .i64 hx
    have p1 : runIndexS 7 sv (.int .i64 (i : Int)) = _ := p1
    have p2 : ∀ m', TSl encIn m' sv L → runLoadN 7 (.pointer (some ⟨b, off, none⟩)) m' = _ := fun m' h' => (p2 m' h').1
    rw [P18_0_eq]
    simp -implicitDefEqProofs only [Option.bind_some, W_some, W_nw, W_nws, W_nwAt, newVal, cnd_true, cnd_false, gdo_tt, gdo_ff, gdo_tf, gdo_ft, gdo_u, ar_lss, ar_leq, ar_gtr, ar_geq, ar_eql, ar_neq, asB_b, un_not, un_notd, max_i, min_i, Bool.not_true, Bool.not_false, decide_true, decide_false, decide_not, reduceIte, if_true, if_false, Bool.false_eq_true, not_true_eq_false, not_false_eq_true, Bool.true_eq_false, hT.len, hlt, p1, p2 m hT]
    refine W.bind (rright_ok x m) fun r m1 ⟨hr, hu1⟩ => ?_
    subst hr
    have hT1 := hT.upd hu1 (fun b hh => ⟨hb b hh, by simp⟩)
    have hb1 : ∀ b ∈ blkOf sv, b < m1.next := fun b hh => Nat.lt_of_lt_of_le (hb b hh) hu1.next
    cases hr : rightB x with
    | false =>
      simp -implicitDefEqProofs only [Option.bind_some, W_some, W_nw, W_nws, W_nwAt, newVal, cnd_true, cnd_false, gdo_tt, gdo_ff, gdo_tf, gdo_ft, gdo_u, ar_lss, ar_leq, ar_gtr, ar_geq, ar_eql, ar_neq, asB_b, un_not, un_notd, max_i, min_i, Bool.not_true, Bool.not_false, decide_true, decide_false, decide_not, reduceIte, if_true, if_false, Bool.false_eq_true, not_true_eq_false, not_false_eq_true, Bool.true_eq_false, hr]
      exact ⟨⟨[], by simp [hr]⟩, hu1⟩
    | true =>
      simp -implicitDefEqProofs only [Option.bind_some, W_some, W_nw, W_nws, W_nwAt, newVal, cnd_true, cnd_false, gdo_tt, gdo_ff, gdo_tf, gdo_ft, gdo_u, ar_lss, ar_leq, ar_gtr, ar_geq, ar_eql, ar_neq, asB_b, un_not, un_notd, max_i, min_i, Bool.not_true, Bool.not_false, decide_true, decide_false, decide_not, reduceIte, if_true, if_false, Bool.false_eq_true, not_true_eq_false, not_false_eq_true, Bool.true_eq_false, hr, p1, p2 m1 hT1]
      refine W.bind (rone_ok x (Nat.le_trans hxs.s (by decide)) m1) fun r m2 ⟨⟨t, hrt, ht⟩, hu2⟩ => ?_
      subst hrt
      have a1 : arith .add (str s0) (str t) = some (str (s0 ++ t)) := cat_str (by omega)
      simp -implicitDefEqProofs only [Option.bind_some, W_some, W_nw, W_nws, W_nwAt, newVal, cnd_true, cnd_false, gdo_tt, gdo_ff, gdo_tf, gdo_ft, gdo_u, ar_lss, ar_leq, ar_gtr, ar_geq, ar_eql, ar_neq, asB_b, un_not, un_notd, max_i, min_i, Bool.not_true, Bool.not_false, decide_true, decide_false, decide_not, reduceIte, if_true, if_false, Bool.false_eq_true, not_true_eq_false, not_false_eq_true, Bool.true_eq_false, a1, i64_succ (show i < 2 ^ 62 by omega)]
      refine (ih (i + 1) m2 (s0 ++ t) (by omega) (hT1.upd hu2 (fun b hh => ⟨hb1 b hh, by simp⟩)) (fun b hh => Nat.lt_of_lt_of_le (hb1 b hh) hu2.next) (by rw [List.length_append]; omega)).mono fun r m3 ⟨⟨s, q1⟩, q2⟩ => ⟨⟨s, by rw [q1]; simp [hr]⟩, (hu1.then0 hu2).then0 q2⟩
theorem rcode_ok {L : List In} {sv : Value} {m : Mem} (hok : ∀ x ∈ L, x.Ok) (hlen : L.length ≤ 2 ^ 40) (hT : TSl encIn m sv L) (hb : ∀ b ∈ blkOf sv, b < m.next) :
    W (Call S1 tab 18 [sv] m) fun r m' => (∃ s, r = .tuple #[str s, .int .i64 (codeErr L)]) ∧ Upd [] m m' := by
  rw [C18]
  unfold codeErr
  by_cases h : 64 < L.length
  · have : (64 : Int) < (L.length : Int) := by omega
    simp -implicitDefEqProofs only [Option.bind_some, W_some, W_nw, W_nws, W_nwAt, newVal, cnd_true, cnd_false, gdo_tt, gdo_ff, gdo_tf, gdo_ft, gdo_u, ar_lss, ar_leq, ar_gtr, ar_geq, ar_eql, ar_neq, asB_b, un_not, un_notd, max_i, min_i, Bool.not_true, Bool.not_false, decide_true, decide_false, decide_not, reduceIte, if_true, if_false, Bool.false_eq_true, not_true_eq_false, not_false_eq_true, Bool.true_eq_false, hT.len, this, h]
    exact ⟨⟨[], rfl⟩, Upd.refl _ _⟩
  · have : ¬ ((64 : Int) < (L.length : Int)) := by omega
    simp -implicitDefEqProofs only [Option.bind_some, W_some, W_nw, W_nws, W_nwAt, newVal, cnd_true, cnd_false, gdo_tt, gdo_ff, gdo_tf, gdo_ft, gdo_u, ar_lss, ar_leq, ar_gtr, ar_geq, ar_eql, ar_neq, asB_b, un_not, un_notd, max_i, min_i, Bool.not_true, Bool.not_false, decide_true, decide_false, decide_not, reduceIte, if_true, if_false, Bool.false_eq_true, not_true_eq_false, not_false_eq_true, Bool.true_eq_false, hT.len, this, h]
    exact rcode_loop (by omega) hok L.length 0 m [] (by omega) hT hb (by simp)

/- names -/
theorem rnames_ok (m : Mem) : Call S1 tab 21 [] m = some (.slice (some ⟨m.next, 0, none⟩) 19 19, m.add ⟨.cells (encS.flat opNames.tail) 9, false, none⟩) := by
  rw [C21]
  rfl
theorem rname_ok (op : Int) (hop : I64 op) (m : Mem) : W (Call S1 tab 9 [.int .i64 op] m) fun r m' => r = str (nameP op) ∧ Upd [] m m' := by
  rw [C9]
  have hlen : ∀ b : Nat, runLenSlice (.slice (some ⟨b, 0, none⟩) 19 19) = some (.int .i64 19) := fun b => rfl
  have hlen' : opNames.tail.length = 19 := rfl
  unfold nameP
  by_cases h0 : op < 1
  · simp -implicitDefEqProofs only [Option.bind_some, W_some, W_nw, W_nws, W_nwAt, newVal, cnd_true, cnd_false, gdo_tt, gdo_ff, gdo_tf, gdo_ft, gdo_u, ar_lss, ar_leq, ar_gtr, ar_geq, ar_eql, ar_neq, asB_b, un_not, un_notd, max_i, min_i, Bool.not_true, Bool.not_false, decide_true, decide_false, decide_not, reduceIte, if_true, if_false, Bool.false_eq_true, not_true_eq_false, not_false_eq_true, Bool.true_eq_false, h0]
    refine ⟨?_, Upd.refl _ _⟩
    by_cases h1 : op < 0
    · rw [if_pos (.inl h1)]
    · obtain rfl : op = 0 := by omega
      rfl
  · by_cases h1 : 19 < op
    · simp -implicitDefEqProofs only [Option.bind_some, W_some, W_nw, W_nws, W_nwAt, newVal, cnd_true, cnd_false, gdo_tt, gdo_ff, gdo_tf, gdo_ft, gdo_u, ar_lss, ar_leq, ar_gtr, ar_geq, ar_eql, ar_neq, asB_b, un_not, un_notd, max_i, min_i, Bool.not_true, Bool.not_false, decide_true, decide_false, decide_not, reduceIte, if_true, if_false, Bool.false_eq_true, not_true_eq_false, not_false_eq_true, Bool.true_eq_false, h0, h1, rnames_ok, hlen]
      exact ⟨by rw [if_pos (.inr (by omega))], Upd.add _ _ _⟩
    · simp -implicitDefEqProofs only [Option.bind_some, W_some, W_nw, W_nws, W_nwAt, newVal, cnd_true, cnd_false, gdo_tt, gdo_ff, gdo_tf, gdo_ft, gdo_u, ar_lss, ar_leq, ar_gtr, ar_geq, ar_eql, ar_neq, asB_b, un_not, un_notd, max_i, min_i, Bool.not_true, Bool.not_false, decide_true, decide_false, decide_not, reduceIte, if_true, if_false, Bool.false_eq_true, not_true_eq_false, not_false_eq_true, Bool.true_eq_false, h0, h1, rnames_ok, hlen]
      have hu1 : Upd [] m (m.add ⟨.cells (encS.flat opNames.tail) 9, false, none⟩) := Upd.add _ _ _
      generalize m.add ⟨.cells (encS.flat opNames.tail) 9, false, none⟩ = m1 at hu1
      have hT := (TAp.fresh (E := encS) (e := 9) m1 opNames.tail).tsl
      have hu2 : Upd [] m1 (m1.add ⟨.cells (encS.flat opNames.tail) 9, false, none⟩) := Upd.add _ _ _
      obtain ⟨k, rfl⟩ : ∃ k : Nat, op = (k : Int) + 1 := ⟨(op - 1).toNat, by omega⟩
      have hk : k < opNames.tail.length := by omega
      have e1 : arith .sub (.int .i64 ((k : Int) + 1)) (.int .i64 1) = some (.int .i64 (k : Int)) := by rw [i64_sub (by omega) (by omega)]; congr 2; omega
      obtain ⟨p, p1, p2⟩ := idx_s hT hk
      have p1 : runIndexS 1 (.slice (some ⟨m1.next, 0, none⟩) 19 19) (.int .i64 (k : Int)) = some p := p1
      simp -implicitDefEqProofs only [Option.bind_some, W_some, W_nw, W_nws, W_nwAt, newVal, cnd_true, cnd_false, gdo_tt, gdo_ff, gdo_tf, gdo_ft, gdo_u, ar_lss, ar_leq, ar_gtr, ar_geq, ar_eql, ar_neq, asB_b, un_not, un_notd, max_i, min_i, Bool.not_true, Bool.not_false, decide_true, decide_false, decide_not, reduceIte, if_true, if_false, Bool.false_eq_true, not_true_eq_false, not_false_eq_true, Bool.true_eq_false, e1, p1, p2]
      refine ⟨?_, hu1.then0 hu2⟩
      rw [if_neg (by omega)]
      have e2 : ((k : Int) + 1).toNat = k + 1 := by omega
      have e3 : opNames[k + 1]? = some opNames.tail[k] := by
        rw [← List.getElem?_eq_getElem hk, List.getElem?_tail]
      rw [e2, e3]
      rfl

/- a value's word -/
theorem digit_ok {k : Nat} (h : k < 16) (m : Mem) : Call S1 tab 60 [.int .i64 (k : Int)] m = some (str [hexd k], m) := by
  rw [C60]
  have e1 := i64_succ (show k < 2 ^ 62 by omega)
  have e2 : runSliceStr (.string ⟨#[48, 49, 50, 51, 52, 53, 54, 55, 56, 57, 97, 98, 99, 100, 101, 102]⟩) (some (.int .i64 (k : Int))) (some (.int .i64 ((k + 1 : Nat) : Int))) = some (str ((hexTab.drop k).take (k + 1 - k))) := slice_str (l := hexTab) (by omega) (by show k + 1 ≤ 16; omega) .i64 .i64
  have e3 : ∀ k : Fin 16, (hexTab.drop k.val).take (k.val + 1 - k.val) = [hexd k.val] := by decide
  simp -implicitDefEqProofs only [Option.bind_some, W_some, W_nw, W_nws, W_nwAt, newVal, cnd_true, cnd_false, gdo_tt, gdo_ff, gdo_tf, gdo_ft, gdo_u, ar_lss, ar_leq, ar_gtr, ar_geq, ar_eql, ar_neq, asB_b, un_not, un_notd, max_i, min_i, Bool.not_true, Bool.not_false, decide_true, decide_false, decide_not, reduceIte, if_true, if_false, Bool.false_eq_true, not_true_eq_false, not_false_eq_true, Bool.true_eq_false, e1, e2, e3 ⟨k, h⟩]
theorem quo16 (c : Nat) (h : c < 256) : arith .quo (.int .i64 (c : Int)) (.int .i64 16) = some (.int .i64 ((c / 16 : Nat) : Int)) := by
  have e : (c : Int).tdiv 16 = ((c / 16 : Nat) : Int) := by rw [Int.tdiv_eq_ediv_of_nonneg (by omega)]; omega
  show iop .quo .i64 (c : Int) 16 = _
  simp only [iop]
  rw [if_neg (by decide), e, wrap64 (by omega) (by omega)]
theorem rem16 (c : Nat) (h : c < 256) : arith .rem (.int .i64 (c : Int)) (.int .i64 16) = some (.int .i64 ((c % 16 : Nat) : Int)) := by
  have e : (c : Int).tmod 16 = ((c % 16 : Nat) : Int) := by rw [Int.tmod_eq_emod_of_nonneg (by omega)]; omega
  show iop .rem .i64 (c : Int) 16 = _
  simp only [iop]
  rw [if_neg (by decide), e]
theorem rvalue_loop {v : Va} {b : Nat} {m : Mem} (hs : v.s.length ≤ 2 ^ 30) (h : m.get b = some ⟨.cells (encVa.cells v) 35, false, none⟩) : ∀ (d i : Nat) (s0 : List UInt8), i + d = v.s.length → s0.length ≤ 2 * i + 1 →
    P38_0 (.pointer (some ⟨b, 0, none⟩)) (str s0) (.int .i64 (i : Int)) m = some (str (s0 ++ hexP (v.s.drop i)), m) := by
  have f : ∀ k, runFieldAddr k (.pointer (some ⟨b, 0, none⟩)) = some (.pointer (some ⟨b, 0 + k, none⟩)) := fun k => rfl
  have l2 : runLoad1 (.pointer (some ⟨b, 0 + 2, none⟩)) m = some (str v.s) := load_at h rfl
  intro d
  induction d with
  | zero =>
    intro i s0 hd hl
    obtain rfl : i = v.s.length := by omega
    rw [P38_0_eq]
    simp -implicitDefEqProofs only [Option.bind_some, W_some, W_nw, W_nws, W_nwAt, newVal, cnd_true, cnd_false, gdo_tt, gdo_ff, gdo_tf, gdo_ft, gdo_u, ar_lss, ar_leq, ar_gtr, ar_geq, ar_eql, ar_neq, asB_b, un_not, un_notd, max_i, min_i, Bool.not_true, Bool.not_false, decide_true, decide_false, decide_not, reduceIte, if_true, if_false, Bool.false_eq_true, not_true_eq_false, not_false_eq_true, Bool.true_eq_false, f, l2, len_str, Int.lt_irrefl]
    simp [hexP]
  | succ d ih =>
    intro i s0 hd hl
    have hi : i < v.s.length := by omega
    have hlt : (i : Int) < (v.s.length : Int) := by omega
    have hx := idx_str (l := v.s) (i := i) (List.getElem?_eq_getElem hi)
    have hdrop : v.s.drop i = v.s[i] :: v.s.drop (i + 1) := List.drop_eq_getElem_cons hi
    rw [hdrop]
    generalize v.s[i] = c at hx
    have hc : c.toNat < 256 := c.toNat_lt
    have e1 := conv_i64 (a := (c.toNat : Int)) .u8 (by omega) (by omega)
    have a1 : arith .add (str [hexd (c.toNat / 16)]) (str [hexd (c.toNat % 16)]) = some (str [hexd (c.toNat / 16), hexd (c.toNat % 16)]) := cat_str (by simp)
    have a2 : arith .add (str s0) (str [hexd (c.toNat / 16), hexd (c.toNat % 16)]) = some (str (s0 ++ [hexd (c.toNat / 16), hexd (c.toNat % 16)])) := cat_str (by simp only [List.length_cons, List.length_nil]; omega)
    rw [P38_0_eq]
    simp -implicitDefEqProofs only [Option.bind_some, W_some, W_nw, W_nws, W_nwAt, newVal, cnd_true, cnd_false, gdo_tt, gdo_ff, gdo_tf, gdo_ft, gdo_u, ar_lss, ar_leq, ar_gtr, ar_geq, ar_eql, ar_neq, asB_b, un_not, un_notd, max_i, min_i, Bool.not_true, Bool.not_false, decide_true, decide_false, decide_not, reduceIte, if_true, if_false, Bool.false_eq_true, not_true_eq_false, not_false_eq_true, Bool.true_eq_false, f, l2, len_str, hlt, hx, e1, quo16 _ hc, rem16 _ hc, digit_ok (show c.toNat / 16 < 16 by omega), digit_ok (show c.toNat % 16 < 16 by omega), a1, a2]
    have hchk : ∀ (o : O), chk [m, m, m] [(.load1 (.pointer (some ⟨b, 0 + 2, none⟩)), str v.s, 0, 0), (.load1 (.pointer (some ⟨b, 0 + 2, none⟩)), str v.s, 0, 1)] o = o := by
      intro o
      unfold chk
      rw [if_pos]
      simp only [List.all_cons, List.all_nil, Bool.and_true, Bool.and_eq_true]
      refine ⟨okLoad (fun M hM => ?_) (by simp), okLoad (fun M hM => ?_) (by simp)⟩ <;>
      · simp only [List.mem_cons, List.not_mem_nil, or_false, or_self] at hM
        subst hM; exact l2
    rw [hchk]
    simp -implicitDefEqProofs only [Option.bind_some, W_some, W_nw, W_nws, W_nwAt, newVal, cnd_true, cnd_false, gdo_tt, gdo_ff, gdo_tf, gdo_ft, gdo_u, ar_lss, ar_leq, ar_gtr, ar_geq, ar_eql, ar_neq, asB_b, un_not, un_notd, max_i, min_i, Bool.not_true, Bool.not_false, decide_true, decide_false, decide_not, reduceIte, if_true, if_false, Bool.false_eq_true, not_true_eq_false, not_false_eq_true, Bool.true_eq_false, i64_succ (show i < 2 ^ 62 by omega)]
    rw [ih (i + 1) _ (by omega) (by simp; omega)]
    simp [hexP]
theorem rvalue_ok {v : Va} (hn : I64 v.n) (hs : v.s.length ≤ 2 ^ 30) {m : Mem} (hg : Globs m) : W (Call S1 tab 38 [.agg (encVa.cells v).toArray] m) fun r m' => r = str (showP v) ∧ Upd [] m m' := by
  rw [C38]
  refine W_nw.2 ?_
  rw [cells_agg]
  have f : ∀ k, runFieldAddr k (.pointer (some ⟨m.next, 0, none⟩)) = some (.pointer (some ⟨m.next, 0 + k, none⟩)) := fun k => rfl
  have hg1 := Mem.get_add_self m ⟨.cells (encVa.cells v) 35, false, none⟩
  have hu1 : Upd [] m (m.add ⟨.cells (encVa.cells v) 35, false, none⟩) := Upd.add _ _ _
  generalize m.add ⟨.cells (encVa.cells v) 35, false, none⟩ = m1 at hg1 hu1
  have l0 : runLoad1 (.pointer (some ⟨m.next, 0 + 0, none⟩)) m1 = some (.int .i64 v.k) := load_at hg1 rfl
  have l1 : runLoad1 (.pointer (some ⟨m.next, 0 + 1, none⟩)) m1 = some (.int .i64 v.n) := load_at hg1 rfl
  unfold showP
  by_cases hk : v.k = 1
  · simp -implicitDefEqProofs only [Option.bind_some, W_some, W_nw, W_nws, W_nwAt, newVal, cnd_true, cnd_false, gdo_tt, gdo_ff, gdo_tf, gdo_ft, gdo_u, ar_lss, ar_leq, ar_gtr, ar_geq, ar_eql, ar_neq, asB_b, un_not, un_notd, max_i, min_i, Bool.not_true, Bool.not_false, decide_true, decide_false, decide_not, reduceIte, if_true, if_false, Bool.false_eq_true, not_true_eq_false, not_false_eq_true, Bool.true_eq_false, f, l0, l1, hk, fmt_ok (hg.upd0 hu1) hn]
    exact ⟨by trivial, hu1⟩
  · have hl := rvalue_loop hs hg1 v.s.length 0 [39] (by omega) (by simp)
    have hl : P38_0 (.pointer (some ⟨m.next, 0, none⟩)) (.string ⟨#[39]⟩) (.int .i64 0) m1 = _ := hl
    simp -implicitDefEqProofs only [Option.bind_some, W_some, W_nw, W_nws, W_nwAt, newVal, cnd_true, cnd_false, gdo_tt, gdo_ff, gdo_tf, gdo_ft, gdo_u, ar_lss, ar_leq, ar_gtr, ar_geq, ar_eql, ar_neq, asB_b, un_not, un_notd, max_i, min_i, Bool.not_true, Bool.not_false, decide_true, decide_false, decide_not, reduceIte, if_true, if_false, Bool.false_eq_true, not_true_eq_false, not_false_eq_true, Bool.true_eq_false, f, l0, hk, hl]
    exact ⟨by simp, hu1⟩

/- a line -/
theorem rline_tail {i : In} {b : Nat} {s0 : List UInt8} (hi : i.Ok) (h0 : s0.length ≤ 2 ^ 40) {m : Mem} (hg : Globs m) (h : m.get b = some ⟨.cells (encIn.cells i) 37, false, none⟩) :
    W (P19_1 (.pointer (some ⟨b, 0, none⟩)) (str s0) m) fun r m' => r = str (s0 ++ sepP (if i.op = 1 then [showP i.v] else [])) ∧ Upd [] m m' := by
  have f : ∀ k, runFieldAddr k (.pointer (some ⟨b, 0, none⟩)) = some (.pointer (some ⟨b, 0 + k, none⟩)) := fun k => rfl
  rw [P19_1_eq]
  by_cases hop : i.op = 1
  · have hval : runLoadN 3 (.pointer (some ⟨b, 0 + 4, none⟩)) m = some (.agg (encVa.cells i.v).toArray) := load_part h (by simp [encIn])
    have hsl := showP_len (v := i.v) hi.n hi.s
    simp -implicitDefEqProofs only [Option.bind_some, W_some, W_nw, W_nws, W_nwAt, newVal, cnd_true, cnd_false, gdo_tt, gdo_ff, gdo_tf, gdo_ft, gdo_u, ar_lss, ar_leq, ar_gtr, ar_geq, ar_eql, ar_neq, asB_b, un_not, un_notd, max_i, min_i, Bool.not_true, Bool.not_false, decide_true, decide_false, decide_not, reduceIte, if_true, if_false, Bool.false_eq_true, not_true_eq_false, not_false_eq_true, Bool.true_eq_false, f, load_at h (show (encIn.cells i)[0 + 0]? = some (.int .i64 i.op) from rfl), hop, hval]
    refine W.bind (rvalue_ok (v := i.v) hi.n (Nat.le_trans hi.s (by decide)) hg) fun r m1 ⟨hr, hu⟩ => ?_
    subst hr
    have a1 : arith .add (.string ⟨#[32]⟩) (str (showP i.v)) = some (str (32 :: showP i.v)) := cat_str (a := [32]) (b := showP i.v) (by simp only [List.length_cons, List.length_nil]; omega)
    have a2 : arith .add (str s0) (str (32 :: showP i.v)) = some (str (s0 ++ 32 :: showP i.v)) := cat_str (by simp only [List.length_cons]; omega)
    simp -implicitDefEqProofs only [Option.bind_some, W_some, W_nw, W_nws, W_nwAt, newVal, cnd_true, cnd_false, gdo_tt, gdo_ff, gdo_tf, gdo_ft, gdo_u, ar_lss, ar_leq, ar_gtr, ar_geq, ar_eql, ar_neq, asB_b, un_not, un_notd, max_i, min_i, Bool.not_true, Bool.not_false, decide_true, decide_false, decide_not, reduceIte, if_true, if_false, Bool.false_eq_true, not_true_eq_false, not_false_eq_true, Bool.true_eq_false, a1, a2]
    exact ⟨by simp [sepP], hu⟩
  · simp -implicitDefEqProofs only [Option.bind_some, W_some, W_nw, W_nws, W_nwAt, newVal, cnd_true, cnd_false, gdo_tt, gdo_ff, gdo_tf, gdo_ft, gdo_u, ar_lss, ar_leq, ar_gtr, ar_geq, ar_eql, ar_neq, asB_b, un_not, un_notd, max_i, min_i, Bool.not_true, Bool.not_false, decide_true, decide_false, decide_not, reduceIte, if_true, if_false, Bool.false_eq_true, not_true_eq_false, not_false_eq_true, Bool.true_eq_false, f, load_at h (show (encIn.cells i)[0 + 0]? = some (.int .i64 i.op) from rfl), hop]
    exact ⟨by simp [sepP], Upd.refl _ _⟩
theorem rline_loop {i : In} {b n : Nat} {sv : Value} {m : Mem} (hi : i.Ok) (hn : n ≤ 3) (hg : Globs m) (h : m.get b = some ⟨.cells (encIn.cells i) 37, false, none⟩) (hT : TSl (encInt .i64) m sv [i.a, i.b, i.c]) : ∀ (d k : Nat) (s0 : List UInt8), k + d = n → s0.length ≤ 2 ^ 30 + k * 30 →
    W (P19_0 (.pointer (some ⟨b, 0, none⟩)) (.int .i64 (n : Int)) (str s0) sv (.int .i64 (k : Int)) m) fun r m' => r = str (s0 ++ sepP ((([i.a, i.b, i.c].take n).drop k).map Lib.itoa) ++ sepP (if i.op = 1 then [showP i.v] else [])) ∧ Upd [] m m' := by
  intro d
  induction d with
  | zero =>
    intro k s0 hk h0
    obtain rfl : k = n := by omega
    have e : ([i.a, i.b, i.c].take k).drop k = [] := List.drop_eq_nil_of_le (by simp; omega)
    rw [P19_0_eq, e]
    simp -implicitDefEqProofs only [Option.bind_some, W_some, W_nw, W_nws, W_nwAt, newVal, cnd_true, cnd_false, gdo_tt, gdo_ff, gdo_tf, gdo_ft, gdo_u, ar_lss, ar_leq, ar_gtr, ar_geq, ar_eql, ar_neq, asB_b, un_not, un_notd, max_i, min_i, Bool.not_true, Bool.not_false, decide_true, decide_false, decide_not, reduceIte, if_true, if_false, Bool.false_eq_true, not_true_eq_false, not_false_eq_true, Bool.true_eq_false, Int.lt_irrefl]
    exact (rline_tail hi (by omega) hg h).mono fun r m' ⟨q1, q2⟩ => ⟨by rw [q1]; simp [sepP], q2⟩
  | succ d ih =>
    intro k s0 hk h0
    have hlt : (k : Int) < (n : Int) := by omega
    have hk' : k < [i.a, i.b, i.c].length := by simp; omega
    have hkt : k < ([i.a, i.b, i.c].take n).length := by simp; omega
    have hx : [i.a, i.b, i.c][k]? = some [i.a, i.b, i.c][k] := List.getElem?_eq_getElem hk'
    have hdrop : ([i.a, i.b, i.c].take n).drop k = [i.a, i.b, i.c][k] :: ([i.a, i.b, i.c].take n).drop (k + 1) := by
      rw [List.drop_eq_getElem_cons hkt]; simp
    have hxw : I64 [i.a, i.b, i.c][k] := by
      match k, hk' with
      | 0, _ => exact hi.a
      | 1, _ => exact hi.b
      | 2, _ => exact hi.c
    rw [hdrop]
    generalize [i.a, i.b, i.c][k] = x at hx hxw
    obtain ⟨p, p1, _, p2⟩ := hT.index .i64 hx
    have p1 : runIndexS 1 sv (.int .i64 (k : Int)) = some p := p1
    have p2 : runLoad1 p m = some (.int .i64 x) := p2 _ rfl
    have hil := itoa_len hxw
    have a1 : arith .add (.string ⟨#[32]⟩) (str (Lib.itoa x)) = some (str (32 :: Lib.itoa x)) := cat_str (a := [32]) (b := Lib.itoa x) (by simp only [List.length_cons, List.length_nil]; omega)
    have a2 : arith .add (str s0) (str (32 :: Lib.itoa x)) = some (str (s0 ++ 32 :: Lib.itoa x)) := cat_str (by simp only [List.length_cons]; omega)
    rw [P19_0_eq]
    simp -implicitDefEqProofs only [Option.bind_some, W_some, W_nw, W_nws, W_nwAt, newVal, cnd_true, cnd_false, gdo_tt, gdo_ff, gdo_tf, gdo_ft, gdo_u, ar_lss, ar_leq, ar_gtr, ar_geq, ar_eql, ar_neq, asB_b, un_not, un_notd, max_i, min_i, Bool.not_true, Bool.not_false, decide_true, decide_false, decide_not, reduceIte, if_true, if_false, Bool.false_eq_true, not_true_eq_false, not_false_eq_true, Bool.true_eq_false, hlt, p1, p2, itoa_ok hg hxw, a1, a2, i64_succ (show k < 2 ^ 62 by omega)]
    refine (ih (k + 1) (s0 ++ 32 :: Lib.itoa x) (by omega) (by simp only [List.length_append, List.length_cons]; omega)).mono fun r m' ⟨q1, q2⟩ => ⟨?_, q2⟩
    rw [q1]
    simp [sepP]
theorem rline_ok {i : In} (hi : i.Ok) {m : Mem} (hg : Globs m) : W (Call S1 tab 19 [.agg (encIn.cells i).toArray] m) fun r m' => r = str (lineP i) ∧ Upd [] m m' := by
  rw [C19]
  refine W_nw.2 ?_
  rw [cells_agg]
  have f : ∀ k, runFieldAddr k (.pointer (some ⟨m.next, 0, none⟩)) = some (.pointer (some ⟨m.next, 0 + k, none⟩)) := fun k => rfl
  generalize hm1 : m.add ⟨.cells (encIn.cells i) 37, false, none⟩ = m1
  have hu1 : Upd [] m m1 := hm1 ▸ Upd.add _ _ _
  have hn1 : m1.next = m.next + 1 := by rw [← hm1]; rfl
  have hg1 : m1.get m.next = some ⟨.cells (encIn.cells i) 37, false, none⟩ := by rw [← hm1]; exact Mem.get_add_self ..
  obtain ⟨n, hn, hn3⟩ := opn_nat i.op
  have e0 : runExtract 0 (.tuple #[.int .i64 (opn i.op).1, .bool (opn i.op).2]) = some (.int .i64 (opn i.op).1) := rfl
  have e1 : runExtract 1 (.tuple #[.int .i64 (opn i.op).1, .bool (opn i.op).2]) = some (.bool (opn i.op).2) := rfl
  have hntn : (opn i.op).1.toNat = n := by rw [hn]; simp
  simp -implicitDefEqProofs only [Option.bind_some, W_some, W_nw, W_nws, W_nwAt, newVal, cnd_true, cnd_false, gdo_tt, gdo_ff, gdo_tf, gdo_ft, gdo_u, ar_lss, ar_leq, ar_gtr, ar_geq, ar_eql, ar_neq, asB_b, un_not, un_notd, max_i, min_i, Bool.not_true, Bool.not_false, decide_true, decide_false, decide_not, reduceIte, if_true, if_false, Bool.false_eq_true, not_true_eq_false, not_false_eq_true, Bool.true_eq_false, f, load_at hg1 (show (encIn.cells i)[0 + 0]? = some (.int .i64 i.op) from rfl), roperands_ok, e0, e1]
  rw [hn]
  refine W.bind (rname_ok i.op hi.op m1) fun r m2 ⟨hr, hu2⟩ => ?_
  subst hr
  have hg2 := (hu2.same m.next (by omega) (by simp)).trans hg1
  simp -implicitDefEqProofs only [Option.bind_some, W_some, W_nw, W_nws, W_nwAt, newVal, cnd_true, cnd_false, gdo_tt, gdo_ff, gdo_tf, gdo_ft, gdo_u, ar_lss, ar_leq, ar_gtr, ar_geq, ar_eql, ar_neq, asB_b, un_not, un_notd, max_i, min_i, Bool.not_true, Bool.not_false, decide_true, decide_false, decide_not, reduceIte, if_true, if_false, Bool.false_eq_true, not_true_eq_false, not_false_eq_true, Bool.true_eq_false, f, load_at hg2 (show (encIn.cells i)[0 + 1]? = some (.int .i64 i.a) from rfl), load_at hg2 (show (encIn.cells i)[0 + 2]? = some (.int .i64 i.b) from rfl), load_at hg2 (show (encIn.cells i)[0 + 3]? = some (.int .i64 i.c) from rfl), ef3]
  have hT := (TAp.fresh (E := encInt .i64) (e := 3) m2 [i.a, i.b, i.c]).tsl
  have hu3 : Upd [] m2 (m2.add ⟨.cells ((encInt .i64).flat [i.a, i.b, i.c]) 3, false, none⟩) := Upd.add _ _ _
  have hn2 := hu2.next
  have hnl := nameP_len i.op
  refine (rline_loop hi hn3 (((hg.upd0 hu1).upd0 hu2).upd0 hu3) ((hu3.same m.next (by omega) (by simp)).trans hg2) hT n 0 (nameP i.op) (by omega) (by omega)).mono fun r m' ⟨q1, q2⟩ => ⟨?_, ((hu1.then0 hu2).then0 hu3).then0 q2⟩
  rw [q1]
  unfold lineP wordsP
  rw [hntn]
  simp [joinP, sepP]

/- the text -/
theorem rwrite_loop {L : List In} {sv : Value} (hL : L.length ≤ 64) (hok : ∀ x ∈ L, x.Ok) : ∀ (d i : Nat) (m : Mem) (s0 : List UInt8), i + d = L.length → TSl encIn m sv L → (∀ b ∈ blkOf sv, b < m.next) → Globs m → s0.length ≤ i * 2 ^ 30 →
    W (P7_0 sv (str s0) (.int .i64 (i : Int)) m) fun r m' => r = .tuple #[str (s0 ++ linesP (L.drop i)), .int .i64 0] ∧ Upd [] m m' := by
  intro d
  induction d with
  | zero =>
    intro i m s0 hd hT hb hg hl
    obtain rfl : i = L.length := by omega
    rw [P7_0_eq]
    simp -implicitDefEqProofs only [Option.bind_some, W_some, W_nw, W_nws, W_nwAt, newVal, cnd_true, cnd_false, gdo_tt, gdo_ff, gdo_tf, gdo_ft, gdo_u, ar_lss, ar_leq, ar_gtr, ar_geq, ar_eql, ar_neq, asB_b, un_not, un_notd, max_i, min_i, Bool.not_true, Bool.not_false, decide_true, decide_false, decide_not, reduceIte, if_true, if_false, Bool.false_eq_true, not_true_eq_false, not_false_eq_true, Bool.true_eq_false, hT.len, Int.lt_irrefl]
    exact ⟨by simp [linesP], Upd.refl _ _⟩
  | succ d ih =>
    intro i m s0 hd hT hb hg hl
    have hi : i < L.length := by omega
    have hlt : (i : Int) < (L.length : Int) := by omega
    have hx : L[i]? = some L[i] := List.getElem?_eq_getElem hi
    have hxs := hok _ (List.getElem_mem hi)
    have hdrop : L.drop i = L[i] :: L.drop (i + 1) := List.drop_eq_getElem_cons hi
    rw [hdrop]
    generalize L[i] = x at hx hxs
    obtain ⟨b, off, p1, p2⟩ := hT.at .i64 hx
    have p1 : runIndexS 7 sv (.int .i64 (i : Int)) = _ := p1
    have p2 : ∀ m', TSl encIn m' sv L → runLoadN 7 (.pointer (some ⟨b, off, none⟩)) m' = _ := fun m' h' => (p2 m' h').1
    have hub : Upd [] m (m.bump 11) := ⟨by simp, fun b _ _ => rfl⟩
    have hTb := hT.upd hub (fun b hh => ⟨hb b hh, by simp⟩)
    have hll := lineP_len hxs
    rw [P7_0_eq]
    simp -implicitDefEqProofs only [Option.bind_some, W_some, W_nw, W_nws, W_nwAt, newVal, cnd_true, cnd_false, gdo_tt, gdo_ff, gdo_tf, gdo_ft, gdo_u, ar_lss, ar_leq, ar_gtr, ar_geq, ar_eql, ar_neq, asB_b, un_not, un_notd, max_i, min_i, Bool.not_true, Bool.not_false, decide_true, decide_false, decide_not, reduceIte, if_true, if_false, Bool.false_eq_true, not_true_eq_false, not_false_eq_true, Bool.true_eq_false, hT.len, hlt, p1, p2 _ hTb]
    refine W.bind (rline_ok hxs (hg.upd0 hub)) fun r m1 ⟨hr, hu1⟩ => ?_
    subst hr
    have hnx : m.next + 11 ≤ m1.next := by have := hu1.next; simpa using this
    have ef : afill [.int .u8 0] [(0, 1, .int .u8 10)] = some (encB.flat [10]) := by rfl
    have hT2 : TAp encB 5 (m1.put (m.next + 6) ⟨.cells (encB.flat [10]) 5, false, none⟩) (.slice (some ⟨m.next + 6, 0, none⟩) 1 1) [10] := .inr ⟨m.next + 6, 1, [], none, rfl, by show m.next + 6 < m1.next; omega, by rw [Mem.get_put_self]; rfl, .inl rfl, rfl, by simp⟩
    have hu2 : Upd [] m (m1.put (m.next + 6) ⟨.cells (encB.flat [10]) 5, false, none⟩) := (hub.then0 hu1).put' _ (.inr (by omega))
    have b2 := b2s_ok hT2.tsl
    have a1 : arith .add (str (lineP x)) (str [10]) = some (str (lineP x ++ [10])) := cat_str (by simp only [List.length_cons, List.length_nil]; omega)
    have a2 : arith .add (str s0) (str (lineP x ++ [10])) = some (str (s0 ++ (lineP x ++ [10]))) := cat_str (by simp only [List.length_append, List.length_cons, List.length_nil]; omega)
    simp -implicitDefEqProofs only [Option.bind_some, W_some, W_nw, W_nws, W_nwAt, newVal, cnd_true, cnd_false, gdo_tt, gdo_ff, gdo_tf, gdo_ft, gdo_u, ar_lss, ar_leq, ar_gtr, ar_geq, ar_eql, ar_neq, asB_b, un_not, un_notd, max_i, min_i, Bool.not_true, Bool.not_false, decide_true, decide_false, decide_not, reduceIte, if_true, if_false, Bool.false_eq_true, not_true_eq_false, not_false_eq_true, Bool.true_eq_false, ef, b2, a1, a2]
    refine W_chk.2 ⟨?_, ?_⟩
    · simp only [List.all_cons, List.all_nil, Bool.and_true, Bool.and_eq_true]
      exact ⟨okOne rfl (p2 _ hTb), okOne rfl b2⟩
    · simp -implicitDefEqProofs only [Option.bind_some, W_some, W_nw, W_nws, W_nwAt, newVal, cnd_true, cnd_false, gdo_tt, gdo_ff, gdo_tf, gdo_ft, gdo_u, ar_lss, ar_leq, ar_gtr, ar_geq, ar_eql, ar_neq, asB_b, un_not, un_notd, max_i, min_i, Bool.not_true, Bool.not_false, decide_true, decide_false, decide_not, reduceIte, if_true, if_false, Bool.false_eq_true, not_true_eq_false, not_false_eq_true, Bool.true_eq_false, i64_succ (show i < 2 ^ 62 by omega)]
      refine (ih (i + 1) _ (s0 ++ (lineP x ++ [10])) (by omega) (hT.upd hu2 (fun b hh => ⟨hb b hh, by simp⟩)) (fun b hh => Nat.lt_of_lt_of_le (hb b hh) hu2.next) (hg.upd0 hu2) (by simp only [List.length_append, List.length_cons, List.length_nil]; omega)).mono fun r m3 ⟨q1, q2⟩ => ⟨by rw [q1]; simp [linesP], hu2.then0 q2⟩
theorem rwrite_ok {L : List In} {sv : Value} {m : Mem} (hok : ∀ x ∈ L, x.Ok) (hlen : L.length ≤ 2 ^ 40) (hT : TSl encIn m sv L) (hb : ∀ b ∈ blkOf sv, b < m.next) (hg : Globs m) :
    W (Call S1 tab 7 [sv] m) fun r m' => r = .tuple #[str (textP L), .int .i64 (codeErr L)] ∧ Upd [] m m' := by
  rw [C7]
  refine W.bind (rcode_ok hok hlen hT hb) fun r m1 ⟨⟨s, hr⟩, hu1⟩ => ?_
  subst hr
  have e0 : runExtract 0 (.tuple #[str s, .int .i64 (codeErr L)]) = some (str s) := rfl
  have e1 : runExtract 1 (.tuple #[str s, .int .i64 (codeErr L)]) = some (.int .i64 (codeErr L)) := rfl
  unfold textP
  by_cases h0 : codeErr L = 0
  · have hL : L.length ≤ 64 := by
      unfold codeErr at h0
      split at h0
      · cases h0
      · omega
    rw [h0] at e0 e1 ⊢
    simp -implicitDefEqProofs only [Option.bind_some, W_some, W_nw, W_nws, W_nwAt, newVal, cnd_true, cnd_false, gdo_tt, gdo_ff, gdo_tf, gdo_ft, gdo_u, ar_lss, ar_leq, ar_gtr, ar_geq, ar_eql, ar_neq, asB_b, un_not, un_notd, max_i, min_i, Bool.not_true, Bool.not_false, decide_true, decide_false, decide_not, reduceIte, if_true, if_false, Bool.false_eq_true, not_true_eq_false, not_false_eq_true, Bool.true_eq_false, e0, e1]
    exact (rwrite_loop hL hok L.length 0 m1 [] (by omega) (hT.upd hu1 (fun b hh => ⟨hb b hh, by simp⟩)) (fun b hh => Nat.lt_of_lt_of_le (hb b hh) hu1.next) (hg.upd0 hu1) (by simp)).mono fun r m2 ⟨q1, q2⟩ => ⟨by rw [q1]; simp, hu1.then0 q2⟩
  · simp -implicitDefEqProofs only [Option.bind_some, W_some, W_nw, W_nws, W_nwAt, newVal, cnd_true, cnd_false, gdo_tt, gdo_ff, gdo_tf, gdo_ft, gdo_u, ar_lss, ar_leq, ar_gtr, ar_geq, ar_eql, ar_neq, asB_b, un_not, un_notd, max_i, min_i, Bool.not_true, Bool.not_false, decide_true, decide_false, decide_not, reduceIte, if_true, if_false, Bool.false_eq_true, not_true_eq_false, not_false_eq_true, Bool.true_eq_false, e0, e1, h0]
    exact ⟨by trivial, hu1⟩

theorem writesLaw {L : List In} {sv : Value} {op : Int} {m : Mem} (hop : I64 op) (hok : ∀ x ∈ L, x.Ok) (hlen : L.length ≤ 2 ^ 40) (hT : TSl encIn m sv L) (hb : ∀ b ∈ blkOf sv, b < m.next) (hg : Globs m) :
    W (Call S tab 3 [sv, .int .i64 op] m) fun r m' => r = .bool true := by
  have keep : ∀ {m'}, Upd [] m m' → TSl encIn m' sv L := fun hu => hT.upd hu (fun b hh => ⟨hb b hh, by simp⟩)
  rw [C3]
  refine W.bind (lives_ok hg) fun r m1 ⟨hr, hu1⟩ => ?_
  subst hr
  simp -implicitDefEqProofs only [Option.bind_some, W_some, W_nw, W_nws, W_nwAt, newVal, cnd_true, cnd_false, gdo_tt, gdo_ff, gdo_tf, gdo_ft, gdo_u, ar_lss, ar_leq, ar_gtr, ar_geq, ar_eql, ar_neq, asB_b, un_not, un_notd, max_i, min_i, Bool.not_true, Bool.not_false, decide_true, decide_false, decide_not, reduceIte, if_true, if_false, Bool.false_eq_true, not_true_eq_false, not_false_eq_true, Bool.true_eq_false]
  refine W.bind (up (write_ok hok hlen (keep hu1) (fun b hh => Nat.lt_of_lt_of_le (hb b hh) hu1.next) (hg.upd0 hu1))) fun r m2 ⟨hr, hu2⟩ => ?_
  subst hr
  have hu12 := hu1.then0 hu2
  have f0 : runExtract 0 (.tuple #[str (textP L), .int .i64 (codeErr L)]) = some (str (textP L)) := rfl
  have f1 : runExtract 1 (.tuple #[str (textP L), .int .i64 (codeErr L)]) = some (.int .i64 (codeErr L)) := rfl
  simp -implicitDefEqProofs only [Option.bind_some, W_some, W_nw, W_nws, W_nwAt, newVal, cnd_true, cnd_false, gdo_tt, gdo_ff, gdo_tf, gdo_ft, gdo_u, ar_lss, ar_leq, ar_gtr, ar_geq, ar_eql, ar_neq, asB_b, un_not, un_notd, max_i, min_i, Bool.not_true, Bool.not_false, decide_true, decide_false, decide_not, reduceIte, if_true, if_false, Bool.false_eq_true, not_true_eq_false, not_false_eq_true, Bool.true_eq_false, f0, f1]
  refine W.bind (up (rwrite_ok hok hlen (keep hu12) (fun b hh => Nat.lt_of_lt_of_le (hb b hh) hu12.next) (hg.upd0 hu12))) fun r m3 ⟨hr, hu3⟩ => ?_
  subst hr
  have hu13 := hu12.then0 hu3
  simp -implicitDefEqProofs only [Option.bind_some, W_some, W_nw, W_nws, W_nwAt, newVal, cnd_true, cnd_false, gdo_tt, gdo_ff, gdo_tf, gdo_ft, gdo_u, ar_lss, ar_leq, ar_gtr, ar_geq, ar_eql, ar_neq, asB_b, un_not, un_notd, max_i, min_i, Bool.not_true, Bool.not_false, decide_true, decide_false, decide_not, reduceIte, if_true, if_false, Bool.false_eq_true, not_true_eq_false, not_false_eq_true, Bool.true_eq_false, f0, f1, eql_str]
  refine W.bind (Q := fun r m4 => r = str (nameP op) ∧ Upd [] m m4) (W.bind (up (name_ok op m3)) fun r m4 h => W_some.2 ⟨h.1, hu13.then0 h.2⟩) fun r m4 ⟨hr, hu4⟩ => ?_
  subst hr
  simp -implicitDefEqProofs only [Option.bind_some, W_some, W_nw, W_nws, W_nwAt, newVal, cnd_true, cnd_false, gdo_tt, gdo_ff, gdo_tf, gdo_ft, gdo_u, ar_lss, ar_leq, ar_gtr, ar_geq, ar_eql, ar_neq, asB_b, un_not, un_notd, max_i, min_i, Bool.not_true, Bool.not_false, decide_true, decide_false, decide_not, reduceIte, if_true, if_false, Bool.false_eq_true, not_true_eq_false, not_false_eq_true, Bool.true_eq_false]
  refine W.bind (Q := fun r m5 => r = str (nameP op) ∧ Upd [] m m5) (W.bind (up (rname_ok op hop m4)) fun r m5 h => W_some.2 ⟨h.1, hu4.then0 h.2⟩) fun r m5 ⟨hr, hu5⟩ => ?_
  subst hr
  simp -implicitDefEqProofs only [Option.bind_some, W_some, W_nw, W_nws, W_nwAt, newVal, cnd_true, cnd_false, gdo_tt, gdo_ff, gdo_tf, gdo_ft, gdo_u, ar_lss, ar_leq, ar_gtr, ar_geq, ar_eql, ar_neq, asB_b, un_not, un_notd, max_i, min_i, Bool.not_true, Bool.not_false, decide_true, decide_false, decide_not, reduceIte, if_true, if_false, Bool.false_eq_true, not_true_eq_false, not_false_eq_true, Bool.true_eq_false, eql_str]
end Go.Fx.Tryz
