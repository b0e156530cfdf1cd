/- Duty: a queue held against the reference's list. -/
import Derived.Test.YtbihanbnnhipjaaDutyFairW
import Derived.Test.YtbihanbnnhipjaaDec
import Derived.Test.YtbihanbnnhipjaaFxW
namespace Go.Fx.Try
open Go Go.Fx
set_option linter.unusedSimpArgs false
set_option linter.unusedVariables false

/- the reference -/
theorem rat_loop {m : Mem} {v : Value} {l : List Int} (id : Int) (hv : TSl encI m v l) (hn : l.length ≤ 2 ^ 60) : ∀ (d i : Nat), i + d = l.length → P25_0 v (.int .i64 id) (.int .i64 (i : Int)) m = some (.int .i64 (atFrom id i (l.drop i)), m) := by
  intro d
  induction d with
  | zero =>
    intro i hi
    obtain rfl : i = l.length := by omega
    rw [P25_0_eq]
    simp -implicitDefEqProofs only [Option.bind_some, W_some, W_nw, W_nws, W_nwAt, newVal, cnd_true, cnd_false, gdo_tt, gdo_ff, gdo_tf, gdo_ft, ar_lss, ar_leq, ar_gtr, ar_geq, ar_eql, ar_neq, asB_b, un_not, un_notd, max_i, min_i, Bool.not_true, Bool.not_false, decide_true, decide_false, decide_not, reduceIte, if_true, if_false, Bool.false_eq_true, not_true_eq_false, not_false_eq_true, Bool.true_eq_false, hv.len, Int.lt_irrefl, List.drop_length, atFrom]
  | succ d ih =>
    intro i hi
    have hin : i < l.length := by omega
    have hlt : (i : Int) < (l.length : Int) := by omega
    obtain ⟨b, off, hq1, hq2⟩ := hv.at .i64 (List.getElem?_eq_getElem hin)
    rw [isize] at hq1
    have hld := (hq2 m hv).2 0 (.int .i64 l[i]) rfl
    rw [Nat.add_zero] at hld
    rw [P25_0_eq, List.drop_eq_getElem_cons hin, atFrom]
    by_cases hc : l[i] = id
    · simp -implicitDefEqProofs only [Option.bind_some, W_some, W_nw, W_nws, W_nwAt, newVal, cnd_true, cnd_false, gdo_tt, gdo_ff, gdo_tf, gdo_ft, ar_lss, ar_leq, ar_gtr, ar_geq, ar_eql, ar_neq, asB_b, un_not, un_notd, max_i, min_i, Bool.not_true, Bool.not_false, decide_true, decide_false, decide_not, reduceIte, if_true, if_false, Bool.false_eq_true, not_true_eq_false, not_false_eq_true, Bool.true_eq_false, hv.len, hlt, hq1, hld, hc]
    · simp -implicitDefEqProofs only [Option.bind_some, W_some, W_nw, W_nws, W_nwAt, newVal, cnd_true, cnd_false, gdo_tt, gdo_ff, gdo_tf, gdo_ft, ar_lss, ar_leq, ar_gtr, ar_geq, ar_eql, ar_neq, asB_b, un_not, un_notd, max_i, min_i, Bool.not_true, Bool.not_false, decide_true, decide_false, decide_not, reduceIte, if_true, if_false, Bool.false_eq_true, not_true_eq_false, not_false_eq_true, Bool.true_eq_false, hv.len, hlt, hq1, hld, hc, i64_succ (show i < 2 ^ 62 by omega), ih (i + 1) (by omega)]

theorem rat_ok {m : Mem} {v : Value} {l : List Int} (id : Int) (hv : TSl encI m v l) (hn : l.length ≤ 2 ^ 60) : Call S tab 25 [v, .int .i64 id] m = some (.int .i64 (atFrom id 0 l), m) := by
  rw [C25, show (0 : Int) = ((0 : Nat) : Int) from rfl, rat_loop id hv hn l.length 0 (by omega), List.drop_zero]

theorem without_ok {m : Mem} {v : Value} {l : List Int} {j : Nat} (h : TAp encI 3 m v l) (hj : j < l.length) (hn : l.length ≤ 2 ^ 30) :
    W (Call S tab 29 [v, .int .i64 (j : Int)] m) fun v' m' => TAp encI 3 m' v' (l.eraseIdx j) ∧ Upd [] m m' ∧ ∀ b ∈ blkOf v', m.next ≤ b := by
  obtain ⟨a, ha1, ha2, ha3⟩ := h.tsl.upto' (k := j) (by omega)
  obtain ⟨c, hc1, hc2, hc3⟩ := h.from (k := j + 1) (by omega)
  rw [isize] at ha1 hc1
  have hab : ∀ b ∈ blkOf a, b < m.next := by rw [ha3]; exact h.lt
  have hcb : ∀ b ∈ blkOf c, b < m.next := by rw [hc3]; exact h.lt
  have hs1 := ha2.src
  obtain ⟨v1, m1, p1, p2, p3, p4⟩ := (TAp.nil (E := encI) (e := 3) m).append (k := l.take j) (eb := 8) (by decide) (by simp; omega) (by simp; omega)
  have hu1 : Upd [] m m1 := p3.mono (fun b hb => by simp [blkOf] at hb)
  have hc2' := hc2.upd hu1 (fun b hb => ⟨hcb b hb, by simp⟩)
  have hs2 := hc2'.src
  rw [List.nil_append] at p2
  obtain ⟨v2, m2, q1, q2, q3, q4⟩ := p2.append (k := l.drop (j + 1)) (eb := 8) (by decide) (by simp; omega) (by simp; omega)
  have hget : ∀ b ∈ blkOf v, m1.get b = m.get b := fun b hb => hu1.same b (h.lt b hb) (by simp)
  have e1 := hc1 m (fun _ _ => rfl)
  have e2 := hc1 m1 hget
  have e0 := ha1 m
  rw [isize] at hs1 hs2 p1 q1
  have hnew : ∀ b ∈ blkOf v1, m.next ≤ b := fun b hb => (p4 b hb).elim (fun h => by simp [blkOf] at h) id
  have hn1 := hu1.next
  rw [C29]
  simp -implicitDefEqProofs only [Option.bind_some, W_some, W_nw, W_nws, W_nwAt, newVal, cnd_true, cnd_false, gdo_tt, gdo_ff, gdo_tf, gdo_ft, ar_lss, ar_leq, ar_gtr, ar_geq, ar_eql, ar_neq, asB_b, un_not, un_notd, max_i, min_i, Bool.not_true, Bool.not_false, decide_true, decide_false, decide_not, reduceIte, if_true, if_false, Bool.false_eq_true, not_true_eq_false, not_false_eq_true, Bool.true_eq_false, e0, hs1, p1, i64_succ (show j < 2 ^ 62 by omega), e2, hs2, q1, W_chk]
  refine ⟨?_, ?_, ?_, ?_⟩
  · simp -implicitDefEqProofs only [List.all_cons, List.all_nil, okReq_at, Nat.reduceAdd, Nat.reduceSub, okAt_succ, okAt_zero, List.getElem?_cons_zero, List.getElem?_cons_succ, okOne_some, rq_sliceS, e0, e1, e2, okV_refl, Bool.and_self]
  · rw [List.eraseIdx_eq_take_drop_succ]; exact q2
  · exact hu1.then' q3 (fun b hb => .inr (hnew b hb))
  · intro b hb
    rcases q4 b hb with h | h
    · exact hnew b h
    · omega

/-- Which number is picked, and where it stands. -/
theorem rpick_loop {fv v : Value} {fit l : List Int} (hnl : l.length ≤ 2 ^ 29) (hfn : fit.length ≤ 2 ^ 60) : ∀ (d i : Nat) (m : Mem), i + d = l.length → TSl encI m fv fit → TAp encI 3 m v l → (∀ b ∈ blkOf fv, b < m.next) →
    W (P31_0 v fv (.int .i64 (i : Int)) m) fun r m' => match (l.drop i).findIdx? (fun x => decide (x ∈ fit)) with
      | none => r = .tuple #[.int .i64 0, .bool false, v] ∧ m' = m
      | some j => ∃ v' x, l[i + j]? = some x ∧ r = .tuple #[.int .i64 x, .bool true, v'] ∧ TAp encI 3 m' v' (l.eraseIdx (i + j) ++ [x]) ∧ Upd [] m m' ∧ ∀ b ∈ blkOf v', m.next ≤ b := by
  intro d
  induction d with
  | zero =>
    intro i m hi hf h hfb
    obtain rfl : i = l.length := by omega
    rw [P31_0_eq, List.drop_length]
    simp -implicitDefEqProofs only [Option.bind_some, W_some, W_nw, W_nws, W_nwAt, newVal, cnd_true, cnd_false, gdo_tt, gdo_ff, gdo_tf, gdo_ft, ar_lss, ar_leq, ar_gtr, ar_geq, ar_eql, ar_neq, asB_b, un_not, un_notd, max_i, min_i, Bool.not_true, Bool.not_false, decide_true, decide_false, decide_not, reduceIte, if_true, if_false, Bool.false_eq_true, not_true_eq_false, not_false_eq_true, Bool.true_eq_false, h.tsl.len, Int.lt_irrefl, List.findIdx?_nil]
    exact ⟨trivial, trivial⟩
  | succ d ih =>
    intro i m hi hf h hfb
    have hin : i < l.length := by omega
    have hlt : (i : Int) < (l.length : Int) := by omega
    obtain ⟨b, off, hq1, hq2⟩ := h.tsl.at .i64 (List.getElem?_eq_getElem hin)
    rw [isize] at hq1
    have hldm : ∀ m', TSl encI m' v l → runLoad1 (.pointer (some ⟨b, off, none⟩)) m' = some (.int .i64 l[i]) := fun m' hm' => by
      have := (hq2 m' hm').2 0 (.int .i64 l[i]) rfl
      rwa [Nat.add_zero] at this
    have hld := hldm m h.tsl
    have hge : decide (0 ≤ atFrom l[i] 0 fit) = decide (l[i] ∈ fit) := by
      rcases atFrom_spec l[i] fit 0 with ⟨h1, h2⟩ | ⟨j, _, h1, h2, _⟩
      · rw [h1]; simp [h2]
      · rw [h1]; simp [List.mem_of_getElem? h2]
    rw [P31_0_eq, List.drop_eq_getElem_cons hin, List.findIdx?_cons]
    by_cases hc : l[i] ∈ fit
    · have hge1 : 0 ≤ atFrom l[i] 0 fit := by rw [decide_eq_true hc] at hge; simpa using hge
      -- the numbers that are kept
      have hub : Upd [] m (m.bump 16) := ⟨by simp, fun _ _ _ => rfl⟩
      have hb := h.upd0 hub
      have hldb := hldm _ hb.tsl
      obtain ⟨v1, m1, w1, w2, w3, w4⟩ := without_ok hb hin (by omega)
      have hu1 := hub.then0 w3
      have hld1 := hldm m1 (h.upd0 hu1).tsl
      have hn1 := w3.next
      simp only [Mem.next_bump] at hn1
      have hfr : m1.get (m.next + 11) = m1.get (m.next + 11) := rfl
      have hu2 : Upd [] m (m1.put (m.next + 11) ⟨.cells [.int .i64 l[i]] 3, false, none⟩) := hu1.put' _ (.inr (by omega))
      have hld2 := hldm _ (h.upd0 hu2).tsl
      have hput : Upd [m.next + 11] m1 (m1.put (m.next + 11) ⟨.cells [.int .i64 l[i]] 3, false, none⟩) := Upd.put _ _ (by simp)
      have hv1 : TAp encI 3 (m1.put (m.next + 11) ⟨.cells [.int .i64 l[i]] 3, false, none⟩) v1 (l.eraseIdx i) := w2.upd hput (fun b hb => by have := w4 b hb; simp at this ⊢; omega)
      have hsrc : runSrc 1 (.slice (some ⟨m.next + 11, 0, none⟩) 1 1) (m1.put (m.next + 11) ⟨.cells [.int .i64 l[i]] 3, false, none⟩) = some (1, [.int .i64 l[i]]) := by
        simp [runSrc, cellsAt_of_get (Mem.get_put_self m1 (m.next + 11) _)]
      obtain ⟨v2, m2, a1, a2, a3, a4⟩ := hv1.append (k := [l[i]]) (eb := 8) (by decide) (by simp [List.length_eraseIdx]; split <;> omega) (by simp [List.length_eraseIdx]; split <;> omega)
      simp only [List.length_cons, List.length_nil, Nat.zero_add, encI.flat_one, isize, icells] at a1
      have hu3 : Upd [] m m2 := hu2.then' a3 (fun b hb => .inr (by have := w4 b hb; simp at this; omega))
      have hld3 := hldm _ (h.upd0 hu3).tsl
      have hfill : afill [.int .i64 0] [(0, 1, .int .i64 l[i])] = some [.int .i64 l[i]] := rfl
      simp -implicitDefEqProofs only [Option.bind_some, W_some, W_nw, W_nws, W_nwAt, newVal, cnd_true, cnd_false, gdo_tt, gdo_ff, gdo_tf, gdo_ft, ar_lss, ar_leq, ar_gtr, ar_geq, ar_eql, ar_neq, asB_b, un_not, un_notd, max_i, min_i, Bool.not_true, Bool.not_false, decide_true, decide_false, decide_not, reduceIte, if_true, if_false, Bool.false_eq_true, not_true_eq_false, not_false_eq_true, Bool.true_eq_false, h.tsl.len, hlt, hq1, hld, rat_ok l[i] hf hfn, hge1, hldb, w1, hld1, hfill, hsrc, a1, W_chk, hc, Option.map_some]
      refine ⟨?_, v2, l[i], by simp [hin], rfl, by simpa using a2, hu3, fun b hb => ?_⟩
      · simp -implicitDefEqProofs only [List.all_cons, List.all_nil, okReq_at, Nat.reduceAdd, Nat.reduceSub, okAt_succ, okAt_zero, List.getElem?_cons_zero, List.getElem?_cons_succ, okOne_some, rq_load1, hldb, hld1, hld2, hld3, okV_refl, Bool.and_self]
      · rcases a4 b hb with h | h
        · have := w4 b h; simp at this; omega
        · have := hput.next; simp at this h; omega
    · have hge1 : ¬ 0 ≤ atFrom l[i] 0 fit := by rw [decide_eq_false hc] at hge; simpa using hge
      simp -implicitDefEqProofs only [Option.bind_some, W_some, W_nw, W_nws, W_nwAt, newVal, cnd_true, cnd_false, gdo_tt, gdo_ff, gdo_tf, gdo_ft, ar_lss, ar_leq, ar_gtr, ar_geq, ar_eql, ar_neq, asB_b, un_not, un_notd, max_i, min_i, Bool.not_true, Bool.not_false, decide_true, decide_false, decide_not, reduceIte, if_true, if_false, Bool.false_eq_true, not_true_eq_false, not_false_eq_true, Bool.true_eq_false, h.tsl.len, hlt, hq1, hld, rat_ok l[i] hf hfn, hge1, i64_succ (show i < 2 ^ 62 by omega), hc]
      refine (ih (i + 1) m (by omega) hf h hfb).mono fun r m' hr => ?_
      cases hfi : (l.drop (i + 1)).findIdx? (fun x => decide (x ∈ fit)) with
      | none => rw [hfi] at hr; simpa using hr
      | some j =>
        rw [hfi] at hr
        simp only [Option.map_some]
        rw [show i + (j + 1) = i + 1 + j by omega]
        exact hr


/- the law -/
structure DOp where
  k : Int
  id : Int
  f : SV
def encD : Enc DOp := ⟨3, fun o => [.int .i64 o.k, .int .i64 o.id, o.f.v], fun _ => rfl, fun _ => rfl⟩
theorem dsize : encD.size = 3 := rfl
theorem dcells (o : DOp) : encD.cells o = [.int .i64 o.k, .int .i64 o.id, o.f.v] := rfl

theorem kind_ok (o : DOp) (m : Mem) : W (Call S tab 26 [.agg #[.int .i64 o.k, .int .i64 o.id, o.f.v]] m) fun r m' => ∃ k, (k = 0 ∨ k = 1 ∨ k = 2) ∧ r = .int .i64 k ∧ Upd [] m m' := by
  have hld := load_at (o := 0) (m.get_add_self ⟨.cells [.int .i64 o.k, .int .i64 o.id, o.f.v] 54, false, none⟩) (v := .int .i64 o.k) rfl
  have hw : 0 ≤ IntKind.u64.wrap o.k := by
    have hb : (2 ^ IntKind.u64.bits : Int) = 18446744073709551616 := by decide
    unfold IntKind.wrap
    simp only [hb, IntKind.signed, Bool.false_and, Bool.false_eq_true, if_false]
    exact Int.emod_nonneg _ (by decide)
  have ht := Int.tmod_eq_emod_of_nonneg (b := 3) hw
  have h0 := Int.emod_nonneg (IntKind.u64.wrap o.k) (show (3 : Int) ≠ 0 by decide)
  have h1 := Int.emod_lt_of_pos (IntKind.u64.wrap o.k) (show (0 : Int) < 3 by decide)
  have hrem : arith .rem (.int .u64 (IntKind.u64.wrap o.k)) (.int .u64 3) = some (.int .u64 (IntKind.u64.wrap o.k % 3)) := by
    simp only [arith, if_true, iop, ht]
    rfl
  have hcv : runConv .u64 (.int .i64 o.k) = some (.int .u64 (IntKind.u64.wrap o.k)) := rfl
  have hc2 := conv_i64 (a := IntKind.u64.wrap o.k % 3) .u64 (by omega) (by omega)
  have hcl : (Value.agg #[Value.int .i64 o.k, .int .i64 o.id, o.f.v]).cells.toList = [.int .i64 o.k, .int .i64 o.id, o.f.v] := rfl
  have hfa : runFieldAddr 0 (.pointer (some ⟨m.next, 0, none⟩)) = some (.pointer (some ⟨m.next, 0, none⟩)) := rfl
  rw [C26]
  simp -implicitDefEqProofs only [Option.bind_some, W_some, W_nw, W_nws, W_nwAt, newVal, cnd_true, cnd_false, gdo_tt, gdo_ff, gdo_tf, gdo_ft, ar_lss, ar_leq, ar_gtr, ar_geq, ar_eql, ar_neq, asB_b, un_not, un_notd, max_i, min_i, Bool.not_true, Bool.not_false, decide_true, decide_false, decide_not, reduceIte, if_true, if_false, Bool.false_eq_true, not_true_eq_false, not_false_eq_true, Bool.true_eq_false, hcl, hfa, hld, hcv, hrem, hc2]
  exact ⟨_, by omega, rfl, Upd.add _ _ _⟩

theorem erase_at {l : List Int} (hnd : l.Nodup) {j : Nat} {x : Int} (h : l[j]? = some x) : l.eraseIdx j = l.erase x := by
  rcases atFrom_spec x l 0 with ⟨_, h2⟩ | ⟨k, hk, _, h2, h3⟩
  · exact absurd (List.mem_of_getElem? h) h2
  · have : k = j := (List.getElem?_inj hk hnd).1 (h2.trans h.symm)
    rw [← this]; exact h3

/-- Where the law stands: the queue, the reference's list; 'm0': the memory at the beginning. -/
structure St7 (m0 m : Mem) (q v : Value) (B : List Nat) (l : List Int) (i : Nat) : Prop where
  qq : QAt m q B l
  vv : TAp encI 3 m v l
  dis : ∀ b ∈ blkOf v, b ∉ B
  nd : l.Nodup
  len : l.length ≤ i
  upd : Upd [] m0 m
  newB : ∀ b ∈ B, m0.next ≤ b
  newv : ∀ b ∈ blkOf v, m0.next ≤ b

theorem p7_1 {m0 m : Mem} {sv q v : Value} {B : List Nat} {l : List Int} {i b : Nat} {k id : Int} {f : Value} {Q : Value → Mem → Prop} (s : St7 m0 m q v B l (i + 1)) (hi : i < 300) (hbx : m.get b = some ⟨.cells [.int .i64 k, .int .i64 id, f] 54, false, none⟩) (hbl : b < m.next)
    (hK : ∀ m', St7 m0 m' q v B l (i + 1) → W (P7_0 sv q v (.int .i64 ((i + 1 : Nat) : Int)) m') Q) : W (P7_1 sv q v (.int .i64 (i : Int)) (.pointer (some ⟨b, 0, none⟩)) m) Q := by
  have hn := s.len
  obtain ⟨v1, m1, a1, a2, a3, a4⟩ := qall_ok s.qq (by omega)
  have hs2 := (s.vv.upd0 a3).tsl
  have hq1 := s.qq.upd a3 (fun b _ hb => by simp at hb)
  have h32 := isame_ok a2 hs2 (by omega)
  have hld := load_at (o := 1) (m := m1) (by rw [a3.same b hbl (by simp)]; exact hbx) (v := .int .i64 id) rfl
  have hfa : runFieldAddr 1 (.pointer (some ⟨b, 0, none⟩)) = some (.pointer (some ⟨b, 1, none⟩)) := rfl
  have hw := waits_ok id hq1 (by omega)
  have hr := rat_ok id hs2 (by omega)
  rw [P7_1_eq]
  simp -implicitDefEqProofs only [Option.bind_some, W_some, W_nw, W_nws, W_nwAt, newVal, cnd_true, cnd_false, gdo_tt, gdo_ff, gdo_tf, gdo_ft, ar_lss, ar_leq, ar_gtr, ar_geq, ar_eql, ar_neq, asB_b, un_not, un_notd, max_i, min_i, Bool.not_true, Bool.not_false, decide_true, decide_false, decide_not, reduceIte, if_true, if_false, Bool.false_eq_true, not_true_eq_false, not_false_eq_true, Bool.true_eq_false, a1, h32, hfa, gdq_ff, gdq_tf, gdq_ft, gdq_tt, rq_load1, hld, Option.map_some, hw, hr, W_chk, i64_succ (show i < 2 ^ 62 by omega)]
  refine ⟨?_, hK m1 ⟨hq1, s.vv.upd0 a3, s.dis, s.nd, s.len, s.upd.then0 a3, s.newB, s.newv⟩⟩
  simp -implicitDefEqProofs only [List.nil_append, List.cons_append, List.all_cons, List.all_nil, okReq_at, Nat.reduceAdd, Nat.reduceSub, okAt_succ, okAt_zero, List.getElem?_cons_zero, List.getElem?_cons_succ, okOne_some, rq_load1, hld, okV_refl, Bool.and_self]

theorem p7_0 {m0 : Mem} {sv q : Value} {ops : List DOp} (hl : ops.length ≤ 300) (hsv : TSl encD m0 sv ops) (hsb : ∀ b ∈ blkOf sv, b < m0.next) (hop : ∀ o ∈ ops, ∃ F : List Int, TSl encI m0 o.f.v F ∧ F.length ≤ 2 ^ 58 ∧ ∀ b ∈ blkOf o.f.v, b < m0.next) :
    ∀ (d i : Nat) (m : Mem) (v : Value) (B : List Nat) (l : List Int), i + d = ops.length → St7 m0 m q v B l i → W (P7_0 sv q v (.int .i64 (i : Int)) m) fun r _ => r = .bool true := by
  intro d
  induction d with
  | zero =>
    intro i m v B l hi s
    obtain rfl : i = ops.length := by omega
    have h1 := hsv.upd s.upd (fun b hb => ⟨hsb b hb, by simp⟩)
    rw [P7_0_eq]
    simp -implicitDefEqProofs only [Option.bind_some, W_some, W_nw, W_nws, W_nwAt, newVal, cnd_true, cnd_false, gdo_tt, gdo_ff, gdo_tf, gdo_ft, ar_lss, ar_leq, ar_gtr, ar_geq, ar_eql, ar_neq, asB_b, un_not, un_notd, max_i, min_i, Bool.not_true, Bool.not_false, decide_true, decide_false, decide_not, reduceIte, if_true, if_false, Bool.false_eq_true, not_true_eq_false, not_false_eq_true, Bool.true_eq_false, h1.len, Int.lt_irrefl]
  | succ d ih =>
    intro i m v B l hi s
    have hin : i < ops.length := by omega
    have hlt : (i : Int) < (ops.length : Int) := by omega
    have hn := s.len
    have h1 := hsv.upd s.upd (fun b hb => ⟨hsb b hb, by simp⟩)
    obtain ⟨b0, off, hq1, hq2⟩ := h1.at .i64 (List.getElem?_eq_getElem hin)
    rw [dsize] at hq1
    have hld := (hq2 m h1).1
    rw [dsize] at hld
    generalize ho : ops[i] = o at *
    obtain ⟨F, hF1, hF2, hF3⟩ := hop o (by rw [← ho]; exact List.getElem_mem hin)
    rw [dcells] at hld
    -- the step's own copy
    have hst := box_store m 54 (c := [.int .i64 0, .int .i64 0, .slice none 0 0]) (vs := [.int .i64 o.k, .int .i64 o.id, o.f.v]) (n := 3) rfl rfl rfl
    have hbx : ((m.add ⟨.cells [.int .i64 0, .int .i64 0, .slice none 0 0] 54, false, none⟩).put m.next ⟨.cells [.int .i64 o.k, .int .i64 o.id, o.f.v] 54, false, none⟩).get m.next = some ⟨.cells [.int .i64 o.k, .int .i64 o.id, o.f.v] 54, false, none⟩ := Mem.get_put_self ..
    have hu7 : Upd [] m ((m.add ⟨.cells [.int .i64 0, .int .i64 0, .slice none 0 0] 54, false, none⟩).put m.next ⟨.cells [.int .i64 o.k, .int .i64 o.id, o.f.v] 54, false, none⟩) := (Upd.add [] m _).put' _ (.inr (Nat.le_refl _))
    have hn7 : m.next < ((m.add ⟨.cells [.int .i64 0, .int .i64 0, .slice none 0 0] 54, false, none⟩).put m.next ⟨.cells [.int .i64 o.k, .int .i64 o.id, o.f.v] 54, false, none⟩).next := by simp
    generalize (m.add ⟨.cells [.int .i64 0, .int .i64 0, .slice none 0 0] 54, false, none⟩).put m.next ⟨.cells [.int .i64 o.k, .int .i64 o.id, o.f.v] 54, false, none⟩ = m7 at *
    have hB : ∀ b ∈ B, b < m.next := s.qq.lt
    have hv : ∀ b ∈ blkOf v, b < m.next := s.vv.lt
    have hfa : ∀ k, runFieldAddr k (.pointer (some ⟨m.next, 0, none⟩)) = some (.pointer (some ⟨m.next, 0 + k, none⟩)) := fun _ => rfl
    have hl1 := load_at (o := 1) hbx (v := .int .i64 o.id) rfl
    have s7 : St7 m0 m7 q v B l i := ⟨s.qq.upd hu7 (fun b _ hb => by simp at hb), s.vv.upd0 hu7, s.dis, s.nd, s.len, s.upd.then0 hu7, s.newB, s.newv⟩
    have hat := rat_ok o.id s7.vv.tsl (by omega)
    have hall := load_whole (n := 3) hbx rfl
    rw [P7_0_eq]
    simp -implicitDefEqProofs only [Option.bind_some, W_some, W_nw, W_nws, W_nwAt, newVal, cnd_true, cnd_false, gdo_tt, gdo_ff, gdo_tf, gdo_ft, ar_lss, ar_leq, ar_gtr, ar_geq, ar_eql, ar_neq, asB_b, un_not, un_notd, max_i, min_i, Bool.not_true, Bool.not_false, decide_true, decide_false, decide_not, reduceIte, if_true, if_false, Bool.false_eq_true, not_true_eq_false, not_false_eq_true, Bool.true_eq_false, h1.len, hlt, hq1, hld, hst, hfa, Nat.zero_add, hl1, hat, hall]
    refine W.bind (kind_ok o m7) fun r m8 ⟨kk, hkk, hr, hu8⟩ => ?_
    subst hr
    have s8 : St7 m0 m8 q v B l i := ⟨s7.qq.upd hu8 (fun b _ hb => by simp at hb), s7.vv.upd0 hu8, s.dis, s.nd, s.len, s7.upd.then0 hu8, s.newB, s.newv⟩
    have hn8 := hu8.next
    have hbx8 : m8.get m.next = some ⟨.cells [.int .i64 o.k, .int .i64 o.id, o.f.v] 54, false, none⟩ := by rw [hu8.same m.next hn7 (by simp)]; exact hbx
    have hld1 := load_at (o := 1) hbx8 (v := .int .i64 o.id) rfl
    have hld2 := load_at (o := 2) hbx8 (v := o.f.v) rfl
    -- behind the step, whatever it was
    have fin : ∀ (m9 : Mem) (v9 : Value) (B9 : List Nat) (l9 : List Int), St7 m0 m9 q v9 B9 l9 (i + 1) → m9.get m.next = some ⟨.cells [.int .i64 o.k, .int .i64 o.id, o.f.v] 54, false, none⟩ → m.next < m9.next →
        W (P7_1 sv q v9 (.int .i64 (i : Int)) (.pointer (some ⟨m.next, 0, none⟩)) m9) fun r _ => r = .bool true := by
      intro m9 v9 B9 l9 s9 hb9 hn9
      exact p7_1 s9 (by omega) hb9 hn9 (fun m' s' => ih (i + 1) m' v9 B9 l9 (by omega) s')
    rcases hkk with rfl | rfl | rfl
    · -- Join
      obtain ⟨m9, B9, j1, j2, j3, j4⟩ := join_ok o.id s8.qq (by omega)
      have hbB : m.next ∉ B := fun h => by have := hB _ h; omega
      have hb9 : m9.get m.next = some ⟨.cells [.int .i64 o.k, .int .i64 o.id, o.f.v] 54, false, none⟩ := by rw [j3.same m.next (by omega) hbB]; exact hbx8
      have hn9 := j3.next
      have hld9 := load_at (o := 1) hb9 (v := .int .i64 o.id) rfl
      have hv9 : TAp encI 3 m9 v l := s8.vv.upd j3 s.dis
      have hu9 : Upd [] m0 m9 := s8.upd.then' j3 (fun b hb => .inr (s.newB b hb))
      have hm0 := s.upd.next
      rcases atFrom_spec o.id l 0 with ⟨h1, h2⟩ | ⟨j, _, h1, h2, h3⟩
      · have hj : joined l o.id = l ++ [o.id] := by rw [joined, if_neg h2]
        rw [hj] at j2
        have hneg : atFrom o.id 0 l < 0 := by rw [h1]; decide
        have e1 : runEqBool true (.bool true) (.bool true) = some (.bool false) := rfl
        have hd : decide (o.id ∈ l) = false := by simpa using h2
        have hfill : afill [.int .i64 0] [(0, 1, .int .i64 o.id)] = some [.int .i64 o.id] := rfl
        simp -implicitDefEqProofs only [Option.bind_some, W_some, W_nw, W_nws, W_nwAt, newVal, cnd_true, cnd_false, gdo_tt, gdo_ff, gdo_tf, gdo_ft, ar_lss, ar_leq, ar_gtr, ar_geq, ar_eql, ar_neq, asB_b, un_not, un_notd, max_i, min_i, Bool.not_true, Bool.not_false, decide_true, decide_false, decide_not, reduceIte, if_true, if_false, Bool.false_eq_true, not_true_eq_false, not_false_eq_true, Bool.true_eq_false, j1, hd, hneg, hfa, Nat.zero_add, hld1, e1, hld9, hfill]
        have hua : Upd [] m9 (m9.add ⟨.cells [.int .i64 o.id] 3, false, none⟩) := Upd.add _ _ _
        have hsrc : runSrc 1 (.slice (some ⟨m9.next, 0, none⟩) 1 1) (m9.add ⟨.cells [.int .i64 o.id] 3, false, none⟩) = some (1, [.int .i64 o.id]) := by
          simp [runSrc, cellsAt_of_get (Mem.get_add_self m9 _)]
        obtain ⟨v2, m2, a1, a2, a3, a4⟩ := (hv9.upd0 hua).append (k := [o.id]) (eb := 8) (by decide) (by simp; omega) (by simp; omega)
        simp only [List.length_cons, List.length_nil, Nat.zero_add, encI.flat_one, isize, icells] at a1
        simp -implicitDefEqProofs only [Option.bind_some, W_some, W_nw, W_nws, W_nwAt, newVal, cnd_true, cnd_false, gdo_tt, gdo_ff, gdo_tf, gdo_ft, ar_lss, ar_leq, ar_gtr, ar_geq, ar_eql, ar_neq, asB_b, un_not, un_notd, max_i, min_i, Bool.not_true, Bool.not_false, decide_true, decide_false, decide_not, reduceIte, if_true, if_false, Bool.false_eq_true, not_true_eq_false, not_false_eq_true, Bool.true_eq_false, hsrc, a1]
        have hn2 := a3.next
        simp only [Mem.next_add] at hn2
        have hdis : ∀ b ∈ B9, b ∉ blkOf v := fun b hb hb' => (j4 b hb).elim (s.dis b hb') (fun h => by have := s8.vv.lt b hb'; omega)
        refine fin m2 v2 B9 (l ++ [o.id]) ⟨(j2.upd hua (fun b _ hb => by simp at hb)).upd a3 hdis, a2, fun b hb => ?_, ?_, by simp; omega, (hu9.then0 hua).then' a3 (fun b hb => .inr (s.newv b hb)), fun b hb => (j4 b hb).elim (s.newB b) (fun h => by omega), fun b hb => (a4 b hb).elim (s.newv b) (fun h => by simp at h; omega)⟩ ?_ (by omega)
        · rcases a4 b hb with h | h
          · exact fun hb' => hdis b hb' h
          · exact fun hb' => by have := j2.lt b hb'; simp at h; omega
        · rw [List.nodup_append]
          exact ⟨s.nd, by simp, fun a ha b hb e => by simp at hb; subst hb; subst e; exact h2 ha⟩
        · rw [a3.same m.next (by simp; omega) (fun h => by have := hv _ h; omega), hua.same m.next (by omega) (by simp)]; exact hb9
      · have hmem := List.mem_of_getElem? h2
        have hj : joined l o.id = l := by rw [joined, if_pos hmem]
        rw [hj] at j2
        have hneg : ¬ atFrom o.id 0 l < 0 := by rw [h1]; omega
        have e1 : runEqBool true (.bool false) (.bool false) = some (.bool false) := rfl
        have hd : decide (o.id ∈ l) = true := by simpa using hmem
        simp -implicitDefEqProofs only [Option.bind_some, W_some, W_nw, W_nws, W_nwAt, newVal, cnd_true, cnd_false, gdo_tt, gdo_ff, gdo_tf, gdo_ft, ar_lss, ar_leq, ar_gtr, ar_geq, ar_eql, ar_neq, asB_b, un_not, un_notd, max_i, min_i, Bool.not_true, Bool.not_false, decide_true, decide_false, decide_not, reduceIte, if_true, if_false, Bool.false_eq_true, not_true_eq_false, not_false_eq_true, Bool.true_eq_false, j1, hd, hneg, hfa, Nat.zero_add, hld1, e1, hld9]
        exact fin m9 v B9 l ⟨j2, hv9, fun b hb hb' => (j4 b hb').elim (s.dis b hb) (fun h => by have := s8.vv.lt b hb; omega), s.nd, by omega, hu9, fun b hb => (j4 b hb).elim (s.newB b) (fun h => by omega), s.newv⟩ hb9 (by omega)
    · -- Leave
      obtain ⟨m9, j1, j2, j3⟩ := leave_ok o.id s8.qq (by omega)
      have hbB : m.next ∉ B := fun h => by have := hB _ h; omega
      have hb9 : m9.get m.next = some ⟨.cells [.int .i64 o.k, .int .i64 o.id, o.f.v] 54, false, none⟩ := by rw [j3.same m.next (by omega) hbB]; exact hbx8
      have hn9 := j3.next
      have hld9 := load_at (o := 1) hb9 (v := .int .i64 o.id) rfl
      have hv9 : TAp encI 3 m9 v l := s8.vv.upd j3 s.dis
      have hu9 : Upd [] m0 m9 := s8.upd.then' j3 (fun b hb => .inr (s.newB b hb))
      have z1 : ¬ ((1 : Int) = 0) := by decide
      rcases atFrom_spec o.id l 0 with ⟨h1, h2⟩ | ⟨j, hj, h1, h2, h3⟩
      · have he : l.erase o.id = l := List.erase_of_not_mem h2
        rw [he] at j2
        have hneg : ¬ 0 ≤ atFrom o.id 0 l := by rw [h1]; decide
        have e1 : runEqBool true (.bool false) (.bool false) = some (.bool false) := rfl
        have hd : decide (o.id ∈ l) = false := by simpa using h2
        simp -implicitDefEqProofs only [Option.bind_some, W_some, W_nw, W_nws, W_nwAt, newVal, cnd_true, cnd_false, gdo_tt, gdo_ff, gdo_tf, gdo_ft, ar_lss, ar_leq, ar_gtr, ar_geq, ar_eql, ar_neq, asB_b, un_not, un_notd, max_i, min_i, Bool.not_true, Bool.not_false, decide_true, decide_false, decide_not, reduceIte, if_true, if_false, Bool.false_eq_true, not_true_eq_false, not_false_eq_true, Bool.true_eq_false, j1, hd, hneg, hfa, Nat.zero_add, hld1, e1, hld9, z1]
        exact fin m9 v B l ⟨j2, hv9, s.dis, s.nd, by omega, hu9, s.newB, s.newv⟩ hb9 (by omega)
      · rw [Nat.zero_add] at h1
        have hmem := List.mem_of_getElem? h2
        have hneg : 0 ≤ atFrom o.id 0 l := by rw [h1]; omega
        have e1 : runEqBool true (.bool true) (.bool true) = some (.bool false) := rfl
        have hd : decide (o.id ∈ l) = true := by simpa using hmem
        simp -implicitDefEqProofs only [Option.bind_some, W_some, W_nw, W_nws, W_nwAt, newVal, cnd_true, cnd_false, gdo_tt, gdo_ff, gdo_tf, gdo_ft, ar_lss, ar_leq, ar_gtr, ar_geq, ar_eql, ar_neq, asB_b, un_not, un_notd, max_i, min_i, Bool.not_true, Bool.not_false, decide_true, decide_false, decide_not, reduceIte, if_true, if_false, Bool.false_eq_true, not_true_eq_false, not_false_eq_true, Bool.true_eq_false, j1, hd, hneg, hfa, Nat.zero_add, hld1, e1, hld9, z1]
        rw [h1]
        refine W.bind (without_ok hv9 hj (by omega)) fun v2 m2 ⟨w1, w2, w3⟩ => ?_
        rw [h3] at w1
        have hn2 := w2.next
        exact fin m2 v2 B (l.erase o.id) ⟨j2.upd w2 (fun b _ hb => by simp at hb), w1, fun b hb hb' => by have := w3 b hb; have := j2.lt b hb'; omega, s.nd.erase _, by have := List.length_erase_le (a := o.id) (l := l); omega, hu9.then0 w2, s.newB, fun b hb => by have := w3 b hb; have := hu9.next; omega⟩ (by rw [w2.same m.next (by omega) (by simp)]; exact hb9) (by omega)
    · -- Pick
      have z2 : ¬ ((2 : Int) = 0) := by decide
      have z3 : ¬ ((2 : Int) = 1) := by decide
      have hF8 := hF1.upd s8.upd (fun b hb => ⟨hF3 b hb, by simp⟩)
      have hF8b : ∀ b ∈ blkOf o.f.v, b < m8.next := fun b hb => by have := hF3 b hb; have := s8.upd.next; omega
      obtain ⟨p1, p2⟩ := pick_ok s8.qq s.nd (by omega) hF8 hF8b (by omega)
      have x0 : ∀ (a b c : Value), runExtract 0 (.tuple #[a, b, c]) = some a := fun _ _ _ => rfl
      have x1 : ∀ (a b c : Value), runExtract 1 (.tuple #[a, b, c]) = some b := fun _ _ _ => rfl
      have x2 : ∀ (a b c : Value), runExtract 2 (.tuple #[a, b, c]) = some c := fun _ _ _ => rfl
      have y0 : ∀ (a b : Value), runExtract 0 (.tuple #[a, b]) = some a := fun _ _ => rfl
      have y1 : ∀ (a b : Value), runExtract 1 (.tuple #[a, b]) = some b := fun _ _ => rfl
      have hbB : m.next ∉ B := fun h => by have := hB _ h; omega
      have hm8 := s8.upd.next
      cases hfd : l.find? (fun x => decide (x ∈ F)) with
      | none =>
        obtain ⟨m9, j1, j2, j3⟩ := p1 hfd
        have hb9 : m9.get m.next = some ⟨.cells [.int .i64 o.k, .int .i64 o.id, o.f.v] 54, false, none⟩ := by rw [j3.same m.next (by omega) (by simp)]; exact hbx8
        have hn9 := j3.next
        have hld9 := load_at (o := 2) hb9 (v := o.f.v) rfl
        have hv9 := s8.vv.upd0 j3
        have hF9 := hF8.upd j3 (fun b hb => ⟨hF8b b hb, by simp⟩)
        have hp := rpick_loop (by omega) (by omega) l.length 0 m9 (by omega) hF9 hv9 (fun b hb => by have := hF8b b hb; omega)
        rw [List.drop_zero, List.findIdx?_eq_none_iff.2 (by simpa using List.find?_eq_none.1 hfd)] at hp
        simp -implicitDefEqProofs only [Option.bind_some, W_some, W_nw, W_nws, W_nwAt, newVal, cnd_true, cnd_false, gdo_tt, gdo_ff, gdo_tf, gdo_ft, ar_lss, ar_leq, ar_gtr, ar_geq, ar_eql, ar_neq, asB_b, un_not, un_notd, max_i, min_i, Bool.not_true, Bool.not_false, decide_true, decide_false, decide_not, reduceIte, if_true, if_false, Bool.false_eq_true, not_true_eq_false, not_false_eq_true, Bool.true_eq_false, z2, z3, hfa, Nat.zero_add, hld2, j1, y0, y1, hld9, C31]
        refine W.bind hp fun r m10 ⟨hr, hm⟩ => ?_
        subst hr
        rw [hm]
        have e1 : runEqBool true (.bool false) (.bool false) = some (.bool false) := rfl
        simp -implicitDefEqProofs only [Option.bind_some, W_some, W_nw, W_nws, W_nwAt, newVal, cnd_true, cnd_false, gdo_tt, gdo_ff, gdo_tf, gdo_ft, ar_lss, ar_leq, ar_gtr, ar_geq, ar_eql, ar_neq, asB_b, un_not, un_notd, max_i, min_i, Bool.not_true, Bool.not_false, decide_true, decide_false, decide_not, reduceIte, if_true, if_false, Bool.false_eq_true, not_true_eq_false, not_false_eq_true, Bool.true_eq_false, x0, x1, x2, e1]
        exact fin m9 v B l ⟨j2, hv9, s.dis, s.nd, by omega, s8.upd.then0 j3, s.newB, s.newv⟩ hb9 (by omega)
      | some x =>
        obtain ⟨m9, j1, B9, j2, j3, j4⟩ := p2 x hfd
        have hb9 : m9.get m.next = some ⟨.cells [.int .i64 o.k, .int .i64 o.id, o.f.v] 54, false, none⟩ := by rw [j3.same m.next (by omega) hbB]; exact hbx8
        have hn9 := j3.next
        have hld9 := load_at (o := 2) hb9 (v := o.f.v) rfl
        have hv9 := s8.vv.upd j3 s.dis
        have hu9 : Upd [] m0 m9 := s8.upd.then' j3 (fun b hb => .inr (s.newB b hb))
        have hF9 := hF8.upd j3 (fun b hb => ⟨hF8b b hb, fun hb' => by have := s.newB b hb'; have := hF3 b hb; omega⟩)
        have hp := rpick_loop (by omega) (by omega) l.length 0 m9 (by omega) hF9 hv9 (fun b hb => by have := hF8b b hb; omega)
        obtain ⟨hx1, j, hj, hx2, hx3⟩ := List.find?_eq_some_iff_getElem.1 hfd
        have hfi : l.findIdx? (fun x => decide (x ∈ F)) = some j := by
          rw [List.findIdx?_eq_some_iff_getElem]
          exact ⟨hj, by rw [hx2]; exact hx1, fun k hk => by simpa using hx3 k hk⟩
        rw [List.drop_zero, hfi] at hp
        simp -implicitDefEqProofs only [Option.bind_some, W_some, W_nw, W_nws, W_nwAt, newVal, cnd_true, cnd_false, gdo_tt, gdo_ff, gdo_tf, gdo_ft, ar_lss, ar_leq, ar_gtr, ar_geq, ar_eql, ar_neq, asB_b, un_not, un_notd, max_i, min_i, Bool.not_true, Bool.not_false, decide_true, decide_false, decide_not, reduceIte, if_true, if_false, Bool.false_eq_true, not_true_eq_false, not_false_eq_true, Bool.true_eq_false, z2, z3, hfa, Nat.zero_add, hld2, j1, y0, y1, hld9, C31]
        refine W.bind hp fun r m10 ⟨v2, x', hx', hr, w1, w2, w3⟩ => ?_
        subst hr
        rw [Nat.zero_add] at hx' w1
        have hjx : l[j]? = some x := by rw [List.getElem?_eq_getElem hj, hx2]
        rw [hjx] at hx'; cases hx'
        rw [erase_at s.nd hjx] at w1
        have e1 : runEqBool true (.bool true) (.bool true) = some (.bool false) := rfl
        simp -implicitDefEqProofs only [Option.bind_some, W_some, W_nw, W_nws, W_nwAt, newVal, cnd_true, cnd_false, gdo_tt, gdo_ff, gdo_tf, gdo_ft, ar_lss, ar_leq, ar_gtr, ar_geq, ar_eql, ar_neq, asB_b, un_not, un_notd, max_i, min_i, Bool.not_true, Bool.not_false, decide_true, decide_false, decide_not, reduceIte, if_true, if_false, Bool.false_eq_true, not_true_eq_false, not_false_eq_true, Bool.true_eq_false, x0, x1, x2, e1]
        have hn10 := w2.next
        have hxl : x ∈ l := List.mem_of_getElem? hjx
        have hlen : (l.erase x ++ [x]).length = l.length := by
          have := List.length_erase_of_mem hxl
          have := List.length_pos_of_mem hxl
          simp; omega
        refine fin m10 v2 B9 (l.erase x ++ [x]) ⟨j2.upd w2 (fun b _ hb => by simp at hb), w1, fun b hb hb' => by have := w3 b hb; have := j2.lt b hb'; omega, ?_, by omega, hu9.then0 w2, fun b hb => (j4 b hb).elim (s.newB b) (fun h => by omega), fun b hb => by have := w3 b hb; omega⟩ (by rw [w2.same m.next (by omega) (by simp)]; exact hb9) (by omega)
        rw [List.nodup_append]
        exact ⟨s.nd.erase _, by simp, fun a ha b hb e => by simp at hb; subst hb; subst e; exact (List.Nodup.mem_erase_iff s.nd).1 ha |>.1 rfl⟩

theorem dutyPlays {m : Mem} {v : Value} {ops : List DOp} (h : TSl encD m v ops) (hb : ∀ b ∈ blkOf v, b < m.next) (hop : ∀ o ∈ ops, ∃ F : List Int, TSl encI m o.f.v F ∧ F.length ≤ 2 ^ 58 ∧ ∀ b ∈ blkOf o.f.v, b < m.next) (hl : ops.length ≤ 2 ^ 60) :
    ∃ m', Call S tab 7 [v] m = some (.bool true, m') := by
  suffices W (Call S tab 7 [v] m) (fun r _ => r = .bool true) by
    obtain ⟨r, m', h1, rfl⟩ := this
    exact ⟨m', h1⟩
  obtain ⟨v1, e1, e2, e3⟩ := h.upto' (k := min ops.length 300) (by omega)
  rw [dsize] at e1
  have hmin : (if (300 : Int) < (ops.length : Int) then (300 : Int) else (ops.length : Int)) = ((min ops.length 300 : Nat) : Int) := by split <;> omega
  have h23 : Call S tab 23 [v] m = some (v1, m) := by
    rw [C23]
    simp -implicitDefEqProofs only [Option.bind_some, W_some, W_nw, W_nws, W_nwAt, newVal, cnd_true, cnd_false, gdo_tt, gdo_ff, gdo_tf, gdo_ft, ar_lss, ar_leq, ar_gtr, ar_geq, ar_eql, ar_neq, asB_b, un_not, un_notd, max_i, min_i, Bool.not_true, Bool.not_false, decide_true, decide_false, decide_not, reduceIte, if_true, if_false, Bool.false_eq_true, not_true_eq_false, not_false_eq_true, Bool.true_eq_false, h.len, hmin, e1 m]
  obtain ⟨q, m1, n1, n2, n3⟩ := qnew_ok m
  have hv1 : ∀ b ∈ blkOf v1, b < m.next := by rw [e3]; exact hb
  rw [C7, eq22]
  simp -implicitDefEqProofs only [Option.bind_some, W_some, W_nw, W_nws, W_nwAt, newVal, cnd_true, cnd_false, gdo_tt, gdo_ff, gdo_tf, gdo_ft, ar_lss, ar_leq, ar_gtr, ar_geq, ar_eql, ar_neq, asB_b, un_not, un_notd, max_i, min_i, Bool.not_true, Bool.not_false, decide_true, decide_false, decide_not, reduceIte, if_true, if_false, Bool.false_eq_true, not_true_eq_false, not_false_eq_true, Bool.true_eq_false, h23, n1]
  refine p7_0 (m0 := m) (ops := ops.take (min ops.length 300)) (by rw [List.length_take]; omega) e2 hv1 (fun o ho => hop o (List.mem_of_mem_take ho)) _ 0 m1 _ [m.next] [] (Nat.zero_add _) ⟨n2, TAp.nil _, by simp [blkOf], List.nodup_nil, by simp, n3, by simp, by simp [blkOf]⟩

end Go.Fx.Try
