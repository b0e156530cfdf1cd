/- text.Read: a round. -/
import Derived.Test.YtgmkehbebpljjaaGreatDoorDecR
import Derived.Test.YtgmkehbebpljjaaGreatDoorFxLen
namespace Go.Fx.Tryz
open Go Go.Fx
set_option linter.unusedSimpArgs false
set_option linter.unusedVariables false

/-- What becomes of a line: on, or an error at its number. -/
inductive Stp where
  | more (k : Nat) (acc : List In)
  | err (k : Nat) (e : Int)
def stepP (k : Nat) (acc : List In) (s : List UInt8) : Stp :=
  if fieldsW s = [] then .more (k + 1) acc else match instP (fieldsW s) with
    | none => .err (k + 1) 15
    | some i => if acc.length = 64 then .err (k + 1) 3 else .more (k + 1) (acc ++ [i])

/-- The function's own cells between rounds: k lines, the instructions so far. -/
structure Rd (B k : Nat) (acc : List In) (m : Mem) : Prop where
  c0 : m.get B = some ⟨.cells [.slice none 0 0] 22, false, none⟩
  c1 : m.get (B + 1) = some ⟨.cells [.int .i64 0] 3, false, none⟩
  c2 : m.get (B + 2) = some ⟨.cells [.int .i64 0] 24, false, none⟩
  c3 : ∃ v, m.get (B + 3) = some ⟨.cells [v] 22, false, none⟩ ∧ TAp encIn 37 m v acc ∧ ∀ b ∈ blkOf v, B + 10 ≤ b
  c4 : m.get (B + 4) = some ⟨.cells [.int .i64 (k : Int)] 3, false, none⟩
  lt : B + 10 ≤ m.next
/-- Behind an error. -/
structure RdE (B k : Nat) (e : Int) (m : Mem) : Prop where
  c0 : m.get B = some ⟨.cells [.slice none 0 0] 22, false, none⟩
  c1 : m.get (B + 1) = some ⟨.cells [.int .i64 (k : Int)] 3, false, none⟩
  c2 : m.get (B + 2) = some ⟨.cells [.int .i64 e] 24, false, none⟩
  lt : B + 10 ≤ m.next
/-- What is left alone. -/
structure Kept (B : Nat) (m m' : Mem) : Prop where
  next : m.next ≤ m'.next
  same : ∀ b, b < B ∨ (B + 5 ≤ b ∧ b < B + 9) → m'.get b = m.get b
theorem Kept.refl (B : Nat) (m : Mem) : Kept B m m := ⟨Nat.le_refl _, fun _ _ => rfl⟩
theorem Kept.trans {B : Nat} {m m' m'' : Mem} (h : Kept B m m') (h' : Kept B m' m'') : Kept B m m'' := ⟨Nat.le_trans h.next h'.next, fun b hb => (h'.same b hb).trans (h.same b hb)⟩
theorem Kept.of_upd {B : Nat} {m m' : Mem} (hlt : B + 10 ≤ m.next) (h : Upd [] m m') : Kept B m m' := ⟨h.next, fun b hb => h.same b (by omega) (by simp)⟩
theorem Kept.put {B : Nat} (m : Mem) {b : Nat} (x : ABlk) (hb : (B ≤ b ∧ b < B + 5) ∨ B + 9 ≤ b) : Kept B m (m.put b x) := ⟨Nat.le_refl _, fun c hc => by rw [Mem.get_put, if_neg (by omega)]⟩
theorem Rd.upd0 {B k : Nat} {acc : List In} {m m' : Mem} (h : Rd B k acc m) (hu : Upd [] m m') : Rd B k acc m' := by
  have hlt := h.lt
  have hs : ∀ b, b < B + 10 → m'.get b = m.get b := fun b hb => hu.same b (by omega) (by simp)
  obtain ⟨v, h1, h2, h3⟩ := h.c3
  exact ⟨(hs _ (by omega)).trans h.c0, (hs _ (by omega)).trans h.c1, (hs _ (by omega)).trans h.c2, ⟨v, (hs _ (by omega)).trans h1, h2.upd0 hu, h3⟩, (hs _ (by omega)).trans h.c4, Nat.le_trans hlt hu.next⟩

theorem Globs.kept {B : Nat} {m m' : Mem} (hg : Globs m) (hB : 4 ≤ B) (h : Kept B m m') : Globs m' := hg.keep (fun b hb => h.same b (.inl (by omega))) h.next

def rts (x0 vf : Value) (B : Nat) (a b : Value) : List Value := [x0, undef, .pointer (some ⟨B, 0, none⟩), .pointer (some ⟨B + 1, 0, none⟩), .pointer (some ⟨B + 2, 0, none⟩), .pointer (some ⟨B + 3, 0, none⟩), .pointer (some ⟨B + 4, 0, none⟩), a, undef, undef, undef, x0, vf, b, undef, undef, undef, undef, undef, undef, undef, undef, undef, undef, undef, undef, undef, undef, undef, undef, undef, undef, undef, undef, undef, undef, undef, undef, undef, undef]

/-- A round's outcome. -/
def RdQ (B k : Nat) (acc : List In) (s : List UInt8) (m : Mem) (go : Bool) (m' : Mem) : Prop :=
  Kept B m m' ∧ m'.get (B + 9) = m.get (B + 9) ∧ match stepP k acc s with
    | .more k' acc' => go = true ∧ Rd B k' acc' m'
    | .err k' e => go = false ∧ RdE B k' e m'

theorem round_body {B k : Nat} {acc : List In} {s : List UInt8} {m : Mem} (x0 vf x13 : Value) (hB : 4 ≤ B) (hk : k ≤ 2 ^ 40) (hal : acc.length ≤ 64) (hs : s.length ≤ 1048576) (hg : Globs m) (h : Rd B k acc m) (c : Int) :
    W (XK S1 tab (fn10 c).results (fn10 c).body [] (rts x0 vf B (str s) x13) m) fun v m' => (v = .int .i64 c ∧ RdQ B k acc s m true m') ∨ (v = undef ∧ RdQ B k acc s m false m') := by
  rw [rts, R10]
  have hlt := h.lt
  simp -implicitDefEqProofs only [Option.bind_some, W_some, W_nw, W_nws, W_nwAt, newVal, cnd_true, cnd_false, gdo_tt, gdo_ff, gdo_tf, gdo_ft, gdo_u, ar_lss, ar_leq, ar_gtr, ar_geq, ar_eql, ar_neq, asB_b, un_not, un_notd, max_i, min_i, Bool.not_true, Bool.not_false, decide_true, decide_false, decide_not, reduceIte, if_true, if_false, Bool.false_eq_true, not_true_eq_false, not_false_eq_true, Bool.true_eq_false, load_at h.c4 (show [Value.int .i64 (k : Int)][0]? = some (.int .i64 (k : Int)) from rfl), i64_succ (show k < 2 ^ 62 by omega)]
  refine W.bindO (store_at h.c4 (by simp) rfl rfl) ?_
  have k3 : Kept B m (m.put (B + 4) ⟨.cells ([Value.int .i64 (k : Int)].set 0 (.int .i64 ((k + 1 : Nat) : Int))) 3, false, none⟩) := Kept.put _ _ (by omega)
  have n3 : (m.put (B + 4) ⟨.cells ([Value.int .i64 (k : Int)].set 0 (.int .i64 ((k + 1 : Nat) : Int))) 3, false, none⟩).get (B + 9) = m.get (B + 9) := by rw [Mem.get_put, if_neg (by omega)]
  have r3 : Rd B (k + 1) acc (m.put (B + 4) ⟨.cells ([Value.int .i64 (k : Int)].set 0 (.int .i64 ((k + 1 : Nat) : Int))) 3, false, none⟩) := by
    obtain ⟨v, h1, h2, h3⟩ := h.c3
    exact ⟨by rw [Mem.get_put, if_neg (by omega)]; exact h.c0, by rw [Mem.get_put, if_neg (by omega)]; exact h.c1, by rw [Mem.get_put, if_neg (by omega)]; exact h.c2,
      ⟨v, by rw [Mem.get_put, if_neg (by omega)]; exact h1, h2.upd (Upd.put (fp := [B + 4]) _ _ (by simp)) (fun b hb hm => by have := h3 b hb; simp at hm; omega), h3⟩, by rw [Mem.get_put_self]; rfl, hlt⟩
  generalize m.put (B + 4) ⟨.cells ([Value.int .i64 (k : Int)].set 0 (.int .i64 ((k + 1 : Nat) : Int))) 3, false, none⟩ = m3 at k3 n3 r3
  refine W.bind (words_ok (l := s) (by omega) m3) fun wv m4 ⟨hw, u4, hwb⟩ => ?_
  have r4 := r3.upd0 u4
  have k4 := k3.trans (Kept.of_upd r3.lt u4)
  have n4 : m4.get (B + 9) = m.get (B + 9) := (u4.same _ (by have := r3.lt; omega) (by simp)).trans n3
  simp -implicitDefEqProofs only [Option.bind_some, W_some, W_nw, W_nws, W_nwAt, newVal, cnd_true, cnd_false, gdo_tt, gdo_ff, gdo_tf, gdo_ft, gdo_u, ar_lss, ar_leq, ar_gtr, ar_geq, ar_eql, ar_neq, asB_b, un_not, un_notd, max_i, min_i, Bool.not_true, Bool.not_false, decide_true, decide_false, decide_not, reduceIte, if_true, if_false, Bool.false_eq_true, not_true_eq_false, not_false_eq_true, Bool.true_eq_false, hw.tsl.len]
  unfold RdQ stepP
  by_cases hnil : fieldsW s = []
  · have hl0 : ((fieldsW s).length : Int) = 0 := by rw [hnil]; rfl
    simp -implicitDefEqProofs only [Option.bind_some, W_some, W_nw, W_nws, W_nwAt, newVal, cnd_true, cnd_false, gdo_tt, gdo_ff, gdo_tf, gdo_ft, gdo_u, ar_lss, ar_leq, ar_gtr, ar_geq, ar_eql, ar_neq, asB_b, un_not, un_notd, max_i, min_i, Bool.not_true, Bool.not_false, decide_true, decide_false, decide_not, reduceIte, if_true, if_false, Bool.false_eq_true, not_true_eq_false, not_false_eq_true, Bool.true_eq_false, hl0]
    exact .inl ⟨by trivial, k4, n4, by rw [if_pos hnil]; exact ⟨by trivial, r4⟩⟩
  · have hl0 : ¬ (((fieldsW s).length : Int) = 0) := fun e => hnil (List.length_eq_zero_iff.1 (by omega))
    rw [if_neg hnil]
    simp -implicitDefEqProofs only [Option.bind_some, W_some, W_nw, W_nws, W_nwAt, newVal, cnd_true, cnd_false, gdo_tt, gdo_ff, gdo_tf, gdo_ft, gdo_u, ar_lss, ar_leq, ar_gtr, ar_geq, ar_eql, ar_neq, asB_b, un_not, un_notd, max_i, min_i, Bool.not_true, Bool.not_false, decide_true, decide_false, decide_not, reduceIte, if_true, if_false, Bool.false_eq_true, not_true_eq_false, not_false_eq_true, Bool.true_eq_false, hl0]
    have hfl := fieldsW_len s
    refine W.bind (inst_ok hnil hw (by omega) (fun x hx => Nat.le_trans (hfl.2 x hx) hs) (hg.kept hB k4)) fun r m5 ⟨⟨j, b, hr, hj⟩, u5⟩ => ?_
    subst hr
    have e0 : runExtract 0 (.tuple #[.agg (encIn.cells j).toArray, .bool b]) = some (.agg (encIn.cells j).toArray) := rfl
    have e1 : runExtract 1 (.tuple #[.agg (encIn.cells j).toArray, .bool b]) = some (.bool b) := rfl
    simp -implicitDefEqProofs only [Option.bind_some, W_some, W_nw, W_nws, W_nwAt, newVal, cnd_true, cnd_false, gdo_tt, gdo_ff, gdo_tf, gdo_ft, gdo_u, ar_lss, ar_leq, ar_gtr, ar_geq, ar_eql, ar_neq, asB_b, un_not, un_notd, max_i, min_i, Bool.not_true, Bool.not_false, decide_true, decide_false, decide_not, reduceIte, if_true, if_false, Bool.false_eq_true, not_true_eq_false, not_false_eq_true, Bool.true_eq_false, e0, e1]
    refine W.bindO (store_whole (n := 7) (Mem.get_add_self _ _) rfl rfl rfl) ?_
    rw [cells_agg]
    generalize hm6 : (Mem.put _ m5.next ⟨.cells (encIn.cells j) 37, false, none⟩) = m6
    have u6 : Upd [] m5 m6 := hm6 ▸ (Upd.add [] m5 _).put' _ (.inr (Nat.le_refl _))
    have g6 : m6.get m5.next = some ⟨.cells (encIn.cells j) 37, false, none⟩ := by rw [← hm6, Mem.get_put_self]
    have u46 := u5.then0 u6
    have r6 := r4.upd0 u46
    have k6 := k4.trans (Kept.of_upd r4.lt u46)
    have n6 : m6.get (B + 9) = m.get (B + 9) := (u46.same _ (by have := r4.lt; omega) (by simp)).trans n4
    have hn6 := r6.lt
    have err : ∀ (E : Int), ∃ m9 m8 m7, runStore 1 (.pointer (some ⟨B, 0, none⟩)) (.slice none 0 0) m6 = some m7 ∧ runStore 1 (.pointer (some ⟨B + 1, 0, none⟩)) (.int .i64 ((k + 1 : Nat) : Int)) m7 = some m8 ∧ runStore 1 (.pointer (some ⟨B + 2, 0, none⟩)) (.int .i64 E) m8 = some m9 ∧
        (∀ M ∈ [m6, m7, m8, m9], runLoad1 (.pointer (some ⟨B + 4, 0, none⟩)) M = some (.int .i64 ((k + 1 : Nat) : Int))) ∧ Kept B m m9 ∧ m9.get (B + 9) = m.get (B + 9) ∧ RdE B (k + 1) E m9 := by
      intro E
      have g7 : (m6.put B ⟨.cells ([Value.slice none 0 0].set 0 (.slice none 0 0)) 22, false, none⟩).get (B + 1) = some ⟨.cells [.int .i64 0] 3, false, none⟩ := by rw [Mem.get_put, if_neg (by omega)]; exact r6.c1
      have g8 : ((m6.put B ⟨.cells ([Value.slice none 0 0].set 0 (.slice none 0 0)) 22, false, none⟩).put (B + 1) ⟨.cells ([Value.int .i64 0].set 0 (.int .i64 ((k + 1 : Nat) : Int))) 3, false, none⟩).get (B + 2) = some ⟨.cells [.int .i64 0] 24, false, none⟩ := by rw [Mem.get_put, if_neg (by omega), Mem.get_put, if_neg (by omega)]; exact r6.c2
      refine ⟨_, _, _, store_at r6.c0 (by simp) rfl rfl, store_at g7 (by simp) rfl rfl, store_at g8 (by simp) rfl rfl, fun M hM => ?_, ?_, ?_, ⟨?_, ?_, ?_, ?_⟩⟩
      · have q4 := load_at r6.c4 (show [Value.int .i64 ((k + 1 : Nat) : Int)][0]? = some (.int .i64 ((k + 1 : Nat) : Int)) from rfl)
        simp only [List.mem_cons, List.not_mem_nil, or_false] at hM
        rcases hM with rfl | rfl | rfl | rfl
        · exact q4
        · exact load_at (by rw [Mem.get_put, if_neg (by omega)]; exact r6.c4) rfl
        · exact load_at (by rw [Mem.get_put, if_neg (by omega), Mem.get_put, if_neg (by omega)]; exact r6.c4) rfl
        · exact load_at (by rw [Mem.get_put, if_neg (by omega), Mem.get_put, if_neg (by omega), Mem.get_put, if_neg (by omega)]; exact r6.c4) rfl
      · exact ((k6.trans (Kept.put _ _ (by omega))).trans (Kept.put _ _ (by omega))).trans (Kept.put _ _ (by omega))
      · rw [Mem.get_put, if_neg (by omega), Mem.get_put, if_neg (by omega), Mem.get_put, if_neg (by omega)]; exact n6
      · rw [Mem.get_put, if_neg (by omega), Mem.get_put, if_neg (by omega), Mem.get_put_self]; rfl
      · rw [Mem.get_put, if_neg (by omega), Mem.get_put_self]; rfl
      · rw [Mem.get_put_self]; rfl
      · exact hn6
    have l6 := load_at r6.c4 (show [Value.int .i64 ((k + 1 : Nat) : Int)][0]? = some (.int .i64 ((k + 1 : Nat) : Int)) from rfl)
    cases hin : instP (fieldsW s) with
    | none =>
      rw [hin] at hj
      subst hj
      obtain ⟨m9, m8, m7, s1, s2, s3, s4, s5, s6, s7⟩ := err 15
      simp -implicitDefEqProofs only [Option.bind_some, W_some, W_nw, W_nws, W_nwAt, newVal, cnd_true, cnd_false, gdo_tt, gdo_ff, gdo_tf, gdo_ft, gdo_u, ar_lss, ar_leq, ar_gtr, ar_geq, ar_eql, ar_neq, asB_b, un_not, un_notd, max_i, min_i, Bool.not_true, Bool.not_false, decide_true, decide_false, decide_not, reduceIte, if_true, if_false, Bool.false_eq_true, not_true_eq_false, not_false_eq_true, Bool.true_eq_false, l6, s1, s2, s3]
      exact chk1 s4 (by simp) (W_some.2 (.inr ⟨rfl, s5, s6, by trivial, s7⟩))
    | some i =>
      rw [hin] at hj
      obtain ⟨rfl, rfl⟩ := hj
      obtain ⟨v, c3a, c3b, c3c⟩ := r6.c3
      have l3 := load_at c3a (show [v][0]? = some v from rfl)
      by_cases h64 : acc.length = 64
      · have h64' : (acc.length : Int) = 64 := by omega
        obtain ⟨m9, m8, m7, s1, s2, s3, s4, s5, s6, s7⟩ := err 3
        simp -implicitDefEqProofs only [Option.bind_some, W_some, W_nw, W_nws, W_nwAt, newVal, cnd_true, cnd_false, gdo_tt, gdo_ff, gdo_tf, gdo_ft, gdo_u, ar_lss, ar_leq, ar_gtr, ar_geq, ar_eql, ar_neq, asB_b, un_not, un_notd, max_i, min_i, Bool.not_true, Bool.not_false, decide_true, decide_false, decide_not, reduceIte, if_true, if_false, Bool.false_eq_true, not_true_eq_false, not_false_eq_true, Bool.true_eq_false, l3, c3b.tsl.len, h64', l6, s1, s2, s3]
        exact chk1 s4 (by simp) (W_some.2 (.inr ⟨rfl, s5, s6, by simp only [h64, if_true]; exact ⟨by trivial, s7⟩⟩))
      · have h64' : ¬ ((acc.length : Int) = 64) := by omega
        have ef : afill [.int .i64 0, .int .i64 0, .int .i64 0, .int .i64 0, .int .i64 0, .int .i64 0, .string ⟨#[]⟩] [(0, 7, Value.agg (encIn.cells j).toArray)] = some (encIn.flat [j]) := by rfl
        simp -implicitDefEqProofs only [Option.bind_some, W_some, W_nw, W_nws, W_nwAt, newVal, cnd_true, cnd_false, gdo_tt, gdo_ff, gdo_tf, gdo_ft, gdo_u, ar_lss, ar_leq, ar_gtr, ar_geq, ar_eql, ar_neq, asB_b, un_not, un_notd, max_i, min_i, Bool.not_true, Bool.not_false, decide_true, decide_false, decide_not, reduceIte, if_true, if_false, Bool.false_eq_true, not_true_eq_false, not_false_eq_true, Bool.true_eq_false, l3, c3b.tsl.len, h64', load_whole (n := 7) g6 rfl, ef]
        refine app_new (E := encIn) [j] (by decide) c3b (by simp; omega) fun v' m8 a1 a2 a3 => ?_
        have s3 : m8.get (B + 3) = some ⟨.cells [v] 22, false, none⟩ := by rw [a2.same _ (by omega) (fun hm => by have := c3c _ hm; omega)]; exact c3a
        have hs : ∀ b, b < B + 10 → m8.get b = m6.get b := fun b hb => a2.same b (by omega) (fun hm => by have := c3c _ hm; omega)
        refine W.bindO (store_at s3 (by simp) a1.one.1 a1.one.2) (W_some.2 (.inl ⟨by trivial, ?_, ?_, ?_⟩))
        · exact (k6.trans ⟨a2.next, fun b hb => hs b (by omega)⟩).trans (Kept.put _ _ (by omega))
        · rw [Mem.get_put, if_neg (by omega), hs _ (by omega)]; exact n6
        · have hnx := a2.next
          simp only [h64, if_false]
          refine ⟨by trivial, ?_, ?_, ?_, ⟨v', Mem.get_put_self .., a1.upd (Upd.put (fp := [B + 3]) _ _ (by simp)) (fun b hb hm => ?_), fun b hb => ?_⟩, ?_, ?_⟩
          · rw [Mem.get_put, if_neg (by omega), hs _ (by omega)]; exact r6.c0
          · rw [Mem.get_put, if_neg (by omega), hs _ (by omega)]; exact r6.c1
          · rw [Mem.get_put, if_neg (by omega), hs _ (by omega)]; exact r6.c2
          · simp at hm; subst hm
            rcases a3 _ hb with q | q
            · have := c3c _ q; omega
            · omega
          · rcases a3 _ hb with q | q
            · exact c3c _ q
            · omega
          · rw [Mem.get_put, if_neg (by omega), hs _ (by omega)]; exact r6.c4
          · show B + 10 ≤ m8.next; omega
end Go.Fx.Tryz
/- text.Read. -/
namespace Go.Fx.Tryz
open Go Go.Fx
set_option linter.unusedSimpArgs false
set_option linter.unusedVariables false

/- rounds -/
theorem Rd.put9 {B k : Nat} {acc : List In} {m : Mem} (h : Rd B k acc m) (x : ABlk) : Rd B k acc (m.put (B + 9) x) := by
  obtain ⟨v, h1, h2, h3⟩ := h.c3
  exact ⟨by rw [Mem.get_put, if_neg (by omega)]; exact h.c0, by rw [Mem.get_put, if_neg (by omega)]; exact h.c1, by rw [Mem.get_put, if_neg (by omega)]; exact h.c2,
    ⟨v, by rw [Mem.get_put, if_neg (by omega)]; exact h1, h2.upd (Upd.put (fp := [B + 9]) _ _ (by simp)) (fun b hb hm => by have := h3 b hb; simp at hm; omega), h3⟩, by rw [Mem.get_put, if_neg (by omega)]; exact h.c4, h.lt⟩
theorem RdE.put9 {B k : Nat} {e : Int} {m : Mem} (h : RdE B k e m) (x : ABlk) : RdE B k e (m.put (B + 9) x) :=
  ⟨by rw [Mem.get_put, if_neg (by omega)]; exact h.c0, by rw [Mem.get_put, if_neg (by omega)]; exact h.c1, by rw [Mem.get_put, if_neg (by omega)]; exact h.c2, h.lt⟩

theorem rts_get (x0 vf a b : Value) (B : Nat) : 39 < (rts x0 vf B a b).length := by simp [rts]

theorem round_ok {B k : Nat} {acc : List In} {s : List UInt8} {m : Mem} {x0 vf : Value} (hB : 4 ≤ B) (hk : k ≤ 2 ^ 40) (hal : acc.length ≤ 64) (hs : s.length ≤ 1048576) (hg : Globs m) (h : Rd B k acc m)
    (hrec : m.get (B + 9) = some ⟨.loopR (rts x0 vf B undef undef) [13] ya10 yb10 .ready none, false, none⟩) :
    ∃ go m', roundX P S1 tab (B + 9) [str s] m = some (.bool go, m') ∧ Kept B m m' ∧ match stepP k acc s with
      | .more k' acc' => go = true ∧ Rd B k' acc' m' ∧ m'.get (B + 9) = some ⟨.loopR (rts x0 vf B undef undef) [13] ya10 yb10 .ready none, false, none⟩
      | .err k' e => go = false ∧ RdE B k' e m' ∧ m'.get (B + 9) = some ⟨.loopR (rts x0 vf B undef undef) [13] ya10 yb10 .done (some .ret), false, none⟩ := by
  have hA : Exec S1 tab (comp P ya10) (rts x0 vf B undef (str s)) m = some (.normal, rts x0 vf B (str s) (str s), m) := by
    rw [la10_eq, la10, Exec_region]; rfl
  have hps : setPs (rts x0 vf B undef undef) ([13].zip [str s]) = rts x0 vf B undef (str s) := rfl
  generalize hm1 : m.put (B + 9) ⟨.loopR (rts x0 vf B undef undef) [13] ya10 yb10 .busy none, false, none⟩ = m1
  have h1 : Rd B k acc m1 := hm1 ▸ h.put9 _
  have k1 : Kept B m m1 := hm1 ▸ Kept.put _ _ (by omega)
  have g1 : m1.get (B + 9) = some ⟨.loopR (rts x0 vf B undef undef) [13] ya10 yb10 .busy none, false, none⟩ := by rw [← hm1]; exact Mem.get_put_self ..
  obtain ⟨e, ts3, m2, hx, hc⟩ := round_cases (S := S1) (tab := tab) (A := lb10) (F := 39) (Q := RdQ B k acc s m1) (rts_get x0 vf (str s) (str s) B) (fun c => round_body x0 vf (str s) hB hk hal hs (hg.kept hB k1) h1 c)
  have hlen : [str s].length = [13].length := rfl
  have hRX : roundX P S1 tab (B + 9) [str s] m = (match m2.get (B + 9) with
      | some ⟨.loopR ts'' ps'' a'' b'' _ _, false, none⟩ => some (.bool e.isN, m2.put (B + 9) ⟨.loopR ts'' ps'' a'' b'' (if e.isN then .ready else .done) (pendOf e), false, none⟩)
      | _ => none) := by
    unfold roundX
    rw [hrec]
    simp only [hlen, if_true]
    rw [hps, hA]
    simp only [Option.bind_some]
    rw [hrec]
    simp only
    rw [hm1, lb10_eq, hx]
    rfl
  rcases hc with ⟨rfl, q1, q2, q3⟩ | ⟨rfl, q1, q2, q3⟩
  · rw [q2, g1] at hRX
    refine ⟨true, _, hRX, (k1.trans q1).trans (Kept.put _ _ (by omega)), ?_⟩
    revert q3
    cases stepP k acc s with
    | more k' acc' => exact fun q3 => ⟨rfl, q3.2.put9 _, by rw [Mem.get_put_self]; rfl⟩
    | err k' e => exact fun q3 => absurd q3.1 (by decide)
  · rw [q2, g1] at hRX
    refine ⟨false, _, hRX, (k1.trans q1).trans (Kept.put _ _ (by omega)), ?_⟩
    revert q3
    cases stepP k acc s with
    | more k' acc' => exact fun q3 => absurd q3.1 (by decide)
    | err k' e => exact fun q3 => ⟨rfl, q3.2.put9 _, by rw [Mem.get_put_self]; rfl⟩

/- lines -/
def splitGo (c : UInt8) (cur : List UInt8) : List UInt8 → List (List UInt8)
  | [] => [cur]
  | x :: r => if x = c then cur :: splitGo c [] r else splitGo c (cur ++ [x]) r
def splitB (c : UInt8) (s : List UInt8) : List (List UInt8) := splitGo c [] s
theorem splitGo_cut (c : UInt8) (b : List UInt8) : ∀ (a cur : List UInt8), c ∉ a → splitGo c cur (a ++ c :: b) = (cur ++ a) :: splitGo c [] b
  | [], cur, _ => by simp [splitGo]
  | x :: a, cur, h => by
    rw [List.cons_append, splitGo, if_neg (fun e => h (by simp [e])), splitGo_cut c b a (cur ++ [x]) (fun hm => h (List.mem_cons_of_mem _ hm))]
    simp
theorem splitGo_no (c : UInt8) : ∀ (a cur : List UInt8), c ∉ a → splitGo c cur a = [cur ++ a]
  | [], cur, _ => by simp [splitGo]
  | x :: a, cur, h => by
    rw [splitGo, if_neg (fun e => h (by simp [e])), splitGo_no c a (cur ++ [x]) (fun hm => h (List.mem_cons_of_mem _ hm))]
    simp
theorem ib_cases (c : UInt8) : ∀ s : List UInt8, (∃ i : Nat, Lib.indexByte s c = (i : Int) ∧ i < s.length ∧ c ∉ s.take i ∧ s = s.take i ++ c :: s.drop (i + 1)) ∨ (Lib.indexByte s c = -1 ∧ c ∉ s)
  | [] => .inr ⟨rfl, by simp⟩
  | x :: r => by
    unfold Lib.indexByte
    by_cases h : x = c
    · subst h
      exact .inl ⟨0, by simp, by simp, by simp, by simp⟩
    · have hb : (x == c) = false := by simpa using h
      simp only [hb, Bool.false_eq_true, if_false]
      rcases ib_cases c r with ⟨i, h1, h2, h3, h4⟩ | ⟨h1, h2⟩
      · left
        refine ⟨i + 1, ?_, by simp; omega, ?_, ?_⟩
        · have : (Lib.indexByte r c == -1) = false := by rw [h1]; simp
          rw [this, h1]; simp
        · rw [List.take_succ_cons]
          intro hm
          rcases List.mem_cons.1 hm with e | hm
          · exact h e.symm
          · exact h3 hm
        · rw [List.take_succ_cons, List.drop_succ_cons, List.cons_append, ← h4]
      · right
        have : (Lib.indexByte r c == -1) = true := by rw [h1]; rfl
        exact ⟨by rw [this]; rfl, fun hm => by
          rcases List.mem_cons.1 hm with e | hm
          · exact h e.symm
          · exact h2 hm⟩

theorem find_ok (m : Mem) (s : List UInt8) : Call S1 tab 63 [str s, .string ⟨#[10]⟩] m = some (.int .i64 (Lib.indexByte s 10), m) := by
  rw [C63, C76]
  have l1 : runLenStr (.string ⟨#[10]⟩) = some (.int .i64 1) := rfl
  have i1 : runIndexStr (.string ⟨#[10]⟩) (.int .i64 0) = some (.int .u8 10) := rfl
  have r1 : runIdxByte (str s) (.int .u8 10) = some (.int .i64 (Lib.indexByte s 10)) := by simp [runIdxByte, str]
  have e1 : arith .eql (.string ⟨#[10]⟩) (str s) = some (.bool (decide ([10] = s))) := eql_str [10] s
  by_cases h : [10] = s
  · subst h
    simp -implicitDefEqProofs only [Option.bind_some, W_some, W_nw, W_nws, W_nwAt, newVal, cnd_true, cnd_false, gdo_tt, gdo_ff, gdo_tf, gdo_ft, gdo_u, ar_lss, ar_leq, ar_gtr, ar_geq, ar_eql, ar_neq, asB_b, un_not, un_notd, max_i, min_i, Bool.not_true, Bool.not_false, decide_true, decide_false, decide_not, reduceIte, if_true, if_false, Bool.false_eq_true, not_true_eq_false, not_false_eq_true, Bool.true_eq_false, l1, i1, show ¬ ((1 : Int) = 0) by decide, C78, r1, e1]
    rfl
  · simp -implicitDefEqProofs only [Option.bind_some, W_some, W_nw, W_nws, W_nwAt, newVal, cnd_true, cnd_false, gdo_tt, gdo_ff, gdo_tf, gdo_ft, gdo_u, ar_lss, ar_leq, ar_gtr, ar_geq, ar_eql, ar_neq, asB_b, un_not, un_notd, max_i, min_i, Bool.not_true, Bool.not_false, decide_true, decide_false, decide_not, reduceIte, if_true, if_false, Bool.false_eq_true, not_true_eq_false, not_false_eq_true, Bool.true_eq_false, l1, i1, show ¬ ((1 : Int) = 0) by decide, C78, r1, e1, h]

/-- What becomes of lines. -/
def readGo : List (List UInt8) → Nat → List In → Stp
  | [], k, acc => .more k acc
  | s :: r, k, acc => match stepP k acc s with
    | .more k' acc' => readGo r k' acc'
    | .err k' e => .err k' e

theorem stepP_more {k k' : Nat} {acc acc' : List In} {s : List UInt8} (h : stepP k acc s = .more k' acc') (hl : acc.length ≤ 64) : k' = k + 1 ∧ acc'.length ≤ 64 := by
  unfold stepP at h
  split at h
  · cases h; exact ⟨rfl, hl⟩
  · split at h
    · cases h
    · split at h
      · cases h
      · rename_i hn
        cases h
        exact ⟨rfl, by simp; omega⟩

theorem S1_leY (N : Nat) : LeC (Call S1 tab) (Call (withY P S1 tab N) tab) := by
  refine Call_ext (fun f a m r h => ?_) (fun f hf a m r h => ?_)
  · unfold withY
    split
    · rename_i e; subst e
      unfold S1 at h
      rw [if_neg (ynum N _ (by decide)), if_neg (ynum N _ (by decide)), if_neg (ynum N _ (by decide)), if_neg (ynum N _ (by decide))] at h
      cases h
    · exact h
  · unfold withY at h
    split at h
    · rename_i e
      obtain ⟨x, hx⟩ := Option.isSome_iff_exists.1 hf
      have hgood := tabGood f x hx
      unfold goodFn at hgood
      have : f < yBase := by
        split at hgood
        · simp only [Bool.and_eq_true] at hgood
          simpa using hgood.1.1
        · cases hgood
      exact absurd this (by rw [e]; exact Nat.not_lt.2 (Nat.le_add_right yBase N))
    · exact h

/-- What the iterator leaves alone. -/
structure KeptI (B : Nat) (m m' : Mem) : Prop where
  next : m.next ≤ m'.next
  same : ∀ b, b < B ∨ b = B + 8 → m'.get b = m.get b
theorem Kept.i {B : Nat} {m m' : Mem} (h : Kept B m m') : KeptI B m m' := ⟨h.next, fun b hb => h.same b (by omega)⟩
theorem KeptI.trans {B : Nat} {m m' m'' : Mem} (h : KeptI B m m') (h' : KeptI B m' m'') : KeptI B m m'' := ⟨Nat.le_trans h.next h'.next, fun b hb => (h'.same b hb).trans (h.same b hb)⟩

theorem Rd.put5 {B k : Nat} {acc : List In} {m : Mem} (h : Rd B k acc m) (x : ABlk) : Rd B k acc (m.put (B + 5) x) := by
  obtain ⟨v, h1, h2, h3⟩ := h.c3
  exact ⟨by rw [Mem.get_put, if_neg (by omega)]; exact h.c0, by rw [Mem.get_put, if_neg (by omega)]; exact h.c1, by rw [Mem.get_put, if_neg (by omega)]; exact h.c2,
    ⟨v, by rw [Mem.get_put, if_neg (by omega)]; exact h1, h2.upd (Upd.put (fp := [B + 5]) _ _ (by simp)) (fun b hb hm => by have := h3 b hb; simp at hm; omega), h3⟩, by rw [Mem.get_put, if_neg (by omega)]; exact h.c4, h.lt⟩

theorem yield_ok {N : Nat} {args : List Value} {m : Mem} {r : Value × Mem} (h : roundX P S1 tab N args m = some r) : Call (withY P S1 tab N) tab (yBase + N) args m = some r := by
  refine Call_hook ?_
  unfold withY
  rw [if_pos rfl]; exact h

theorem iter_loop {B : Nat} {x0 vf : Value} (hB : 4 ≤ B) : ∀ (d : Nat) (rest : List UInt8) (m : Mem) (k : Nat) (acc : List In), rest.length ≤ d → rest.length ≤ 1048576 → k + rest.length ≤ 2 ^ 30 → acc.length ≤ 64 → Globs m → Rd B k acc m →
    m.get (B + 9) = some ⟨.loopR (rts x0 vf B undef undef) [13] ya10 yb10 .ready none, false, none⟩ →
    m.get (B + 5) = some ⟨.cells [str rest] 9, false, none⟩ → m.get (B + 6) = some ⟨.cells [str [10]] 9, false, none⟩ → m.get (B + 7) = some ⟨.cells [.int .i64 0] 3, false, none⟩ →
    ∃ m', P61_1 (withY P S1 tab (B + 9)) (.func (.yield (B + 9)) #[] #[]) (.pointer (some ⟨B + 6, 0, none⟩)) (.pointer (some ⟨B + 5, 0, none⟩)) (.pointer (some ⟨B + 7, 0, none⟩)) m = some (.tuple #[], m') ∧ KeptI B m m' ∧ match readGo (splitB 10 rest) k acc with
      | .more k' acc' => Rd B k' acc' m' ∧ m'.get (B + 9) = some ⟨.loopR (rts x0 vf B undef undef) [13] ya10 yb10 .ready none, false, none⟩
      | .err k' e => RdE B k' e m' ∧ m'.get (B + 9) = some ⟨.loopR (rts x0 vf B undef undef) [13] ya10 yb10 .done (some .ret), false, none⟩ := by
  have hcap : capsOf (.func (.yield (B + 9)) #[] #[]) = some (yBase + (B + 9), [], []) := by rfl
  intro d
  induction d with
  | zero =>
    intro rest m k acc hd h20 hk hal hg h hrec h5 h6 h7
    obtain rfl : rest = [] := List.length_eq_zero_iff.1 (by omega)
    have l5 := load_at h5 (show [str []][0]? = some (str []) from rfl)
    have l6 := load_at h6 (show [str [10]][0]? = some (str [10]) from rfl)
    have hf : Call (withY P S1 tab (B + 9)) tab 63 [str [], str [10]] m = some (.int .i64 (-1), m) := S1_leY (B + 9) _ _ _ _ (find_ok m [])
    obtain ⟨go, m', hr, hK, hQ⟩ := round_ok hB (by omega) hal (s := []) (by simp) hg h hrec
    refine ⟨m', ?_, hK.i, ?_⟩
    · rw [P61_1_eq]
      simp -implicitDefEqProofs only [Option.bind_some, W_some, W_nw, W_nws, W_nwAt, newVal, cnd_true, cnd_false, gdo_tt, gdo_ff, gdo_tf, gdo_ft, gdo_u, ar_lss, ar_leq, ar_gtr, ar_geq, ar_eql, ar_neq, asB_b, un_not, un_notd, max_i, min_i, Bool.not_true, Bool.not_false, decide_true, decide_false, decide_not, reduceIte, if_true, if_false, Bool.false_eq_true, not_true_eq_false, not_false_eq_true, Bool.true_eq_false, l5, l6, hf, show ((-1 : Int) < 0) by decide, hcap, List.nil_append, List.append_nil, yield_ok hr]
    · simp only [splitB, splitGo, readGo]
      revert hQ
      cases stepP k acc [] with
      | more k' acc' => exact fun hQ => hQ.2
      | err k' e => exact fun hQ => hQ.2
  | succ d ih =>
    intro rest m k acc hd h20 hk hal hg h hrec h5 h6 h7
    have l5 := load_at h5 (show [str rest][0]? = some (str rest) from rfl)
    have l6 := load_at h6 (show [str [10]][0]? = some (str [10]) from rfl)
    have l7 := load_at h7 (show [Value.int .i64 0][0]? = some (.int .i64 0) from rfl)
    have hf : Call (withY P S1 tab (B + 9)) tab 63 [str rest, str [10]] m = some (.int .i64 (Lib.indexByte rest 10), m) := S1_leY (B + 9) _ _ _ _ (find_ok m rest)
    rcases ib_cases 10 rest with ⟨i, h1, h2, h3, h4⟩ | ⟨h1, h2⟩
    · rw [h1] at hf
      have hi0 : ¬ ((i : Int) < 0) := by omega
      have ea : arith .add (.int .i64 (i : Int)) (.int .i64 0) = some (.int .i64 (i : Int)) := by rw [i64_add (by omega) (by omega)]; simp
      have es := slice_str_upto (l := rest) (b := i) (by omega) .i64
      obtain ⟨go, m1, hr, hK, hQ⟩ := round_ok hB (by omega) hal (s := rest.take i) (by rw [List.length_take]; omega) hg h hrec
      have hsp : splitB 10 rest = rest.take i :: splitB 10 (rest.drop (i + 1)) := by
        unfold splitB
        conv => lhs; rw [h4]
        rw [splitGo_cut 10 _ _ _ h3, List.nil_append]
      rw [hsp, readGo]
      rw [P61_1_eq]
      simp -implicitDefEqProofs only [Option.bind_some, W_some, W_nw, W_nws, W_nwAt, newVal, cnd_true, cnd_false, gdo_tt, gdo_ff, gdo_tf, gdo_ft, gdo_u, ar_lss, ar_leq, ar_gtr, ar_geq, ar_eql, ar_neq, asB_b, un_not, un_notd, max_i, min_i, Bool.not_true, Bool.not_false, decide_true, decide_false, decide_not, reduceIte, if_true, if_false, Bool.false_eq_true, not_true_eq_false, not_false_eq_true, Bool.true_eq_false, l5, l6, l7, hf, hi0, ea, es, hcap, List.nil_append, List.append_nil, yield_ok hr]
      revert hQ
      cases hst : stepP k acc (rest.take i) with
      | err k' e =>
        rintro ⟨rfl, q1, q2⟩
        simp -implicitDefEqProofs only [Option.bind_some, W_some, W_nw, W_nws, W_nwAt, newVal, cnd_true, cnd_false, gdo_tt, gdo_ff, gdo_tf, gdo_ft, gdo_u, ar_lss, ar_leq, ar_gtr, ar_geq, ar_eql, ar_neq, asB_b, un_not, un_notd, max_i, min_i, Bool.not_true, Bool.not_false, decide_true, decide_false, decide_not, reduceIte, if_true, if_false, Bool.false_eq_true, not_true_eq_false, not_false_eq_true, Bool.true_eq_false]
        exact ⟨m1, rfl, hK.i, q1, q2⟩
      | more k' acc' =>
        rintro ⟨rfl, q1, q2⟩
        obtain ⟨rfl, hal'⟩ := stepP_more hst hal
        have s5 := (hK.same (B + 5) (by omega)).trans h5
        have s6 := (hK.same (B + 6) (by omega)).trans h6
        have s7 := (hK.same (B + 7) (by omega)).trans h7
        have n5 := load_at s5 (show [str rest][0]? = some (str rest) from rfl)
        have n6 := load_at s6 (show [str [10]][0]? = some (str [10]) from rfl)
        have e1 : arith .add (.int .i64 (i : Int)) (.int .i64 (([10] : List UInt8).length : Int)) = some (.int .i64 ((i + 1 : Nat) : Int)) := i64_succ (by omega)
        have e2 := slice_str_from (l := rest) (a := i + 1) (by omega) .i64
        have e3 := store_at s5 (o := 0) (v := str (rest.drop (i + 1))) (by simp) rfl rfl
        have hdl : (rest.drop (i + 1)).length = rest.length - (i + 1) := List.length_drop
        obtain ⟨m2, t1, t2, t3⟩ := ih (rest.drop (i + 1)) (m1.put (B + 5) ⟨.cells ([str rest].set 0 (str (rest.drop (i + 1)))) 9, false, none⟩) (k + 1) acc' (by omega) (by omega) (by omega) hal' ((hg.kept hB hK).keep (fun b hb => by rw [Mem.get_put, if_neg (by omega)]) (Nat.le_refl _)) (q1.put5 _)
          (by rw [Mem.get_put, if_neg (by omega)]; exact q2) (by rw [Mem.get_put_self]; rfl) (by rw [Mem.get_put, if_neg (by omega)]; exact s6) (by rw [Mem.get_put, if_neg (by omega)]; exact s7)
        refine ⟨m2, ?_, (hK.i.trans (show KeptI B m1 (m1.put (B + 5) ⟨.cells ([str rest].set 0 (str (rest.drop (i + 1)))) 9, false, none⟩) from ⟨Nat.le_refl _, fun b hb => by rw [Mem.get_put, if_neg (by omega)]⟩)).trans t2, t3⟩
        simp -implicitDefEqProofs only [Option.bind_some, W_some, W_nw, W_nws, W_nwAt, newVal, cnd_true, cnd_false, gdo_tt, gdo_ff, gdo_tf, gdo_ft, gdo_u, ar_lss, ar_leq, ar_gtr, ar_geq, ar_eql, ar_neq, asB_b, un_not, un_notd, max_i, min_i, Bool.not_true, Bool.not_false, decide_true, decide_false, decide_not, reduceIte, if_true, if_false, Bool.false_eq_true, not_true_eq_false, not_false_eq_true, Bool.true_eq_false, n5, n6, len_str, e1, e2, e3, t1]
    · rw [h1] at hf
      obtain ⟨go, m', hr, hK, hQ⟩ := round_ok hB (by omega) hal (s := rest) h20 hg h hrec
      have hsp : splitB 10 rest = [rest] := by unfold splitB; rw [splitGo_no 10 _ _ h2, List.nil_append]
      refine ⟨m', ?_, hK.i, ?_⟩
      · rw [P61_1_eq]
        simp -implicitDefEqProofs only [Option.bind_some, W_some, W_nw, W_nws, W_nwAt, newVal, cnd_true, cnd_false, gdo_tt, gdo_ff, gdo_tf, gdo_ft, gdo_u, ar_lss, ar_leq, ar_gtr, ar_geq, ar_eql, ar_neq, asB_b, un_not, un_notd, max_i, min_i, Bool.not_true, Bool.not_false, decide_true, decide_false, decide_not, reduceIte, if_true, if_false, Bool.false_eq_true, not_true_eq_false, not_false_eq_true, Bool.true_eq_false, l5, l6, hf, show ((-1 : Int) < 0) by decide, hcap, List.nil_append, List.append_nil, yield_ok hr]
      · rw [hsp]
        simp only [readGo]
        revert hQ
        cases stepP k acc rest with
        | more k' acc' => exact fun hQ => hQ.2
        | err k' e => exact fun hQ => hQ.2

/-- The instructions of a text, or the line of an error. -/
def readP (s : List UInt8) : List In × Nat × Int := match readGo (splitB 10 s) 0 [] with
  | .more _ acc => (acc, 0, 0)
  | .err k e => ([], k, e)

theorem splitSeq_ok (s : List UInt8) (m : Mem) : Call S1 tab 22 [str s, .string ⟨#[10]⟩] m = some (.func (.func 61) #[] #[.pointer (some ⟨m.next + 1, 0, none⟩), .pointer (some ⟨m.next, 0, none⟩), .pointer (some ⟨m.next + 2, 0, none⟩)],
    ((m.add ⟨.cells [str s] 9, false, none⟩).add ⟨.cells [str [10]] 9, false, none⟩).add ⟨.cells [.int .i64 0] 3, false, none⟩) := by
  rw [C22, C39]; rfl

theorem YsplitS (N : Nat) : ∀ l m, withY P S1 tab N 61 l m = none := by
  intro l m
  unfold withY
  rw [if_neg (fun e => ynum N 61 (by decide) e.symm)]
  unfold S1
  rw [if_neg (by decide), if_neg (by decide), if_neg (by decide), if_neg (by decide)]

/-- text.Read. -/
theorem readS_ok {s : List UInt8} {m : Mem} (hs : s.length ≤ 1048576) (hg : Globs m) : W (bodyX P S1 tab xRead [str s] m) fun r m' => ∃ v, r = .tuple #[v, .int .i64 ((readP s).2.1 : Int), .int .i64 (readP s).2.2] ∧ TAp encIn 37 m' v (readP s).1 ∧ Upd [] m m' ∧ ∀ b ∈ blkOf v, m.next ≤ b := by
  have hlow := hg.low
  unfold bodyX
  rw [xRead_body, xRead_n, xRead_rs]
  generalize hB : m.next = B
  rw [hB] at hlow
  -- the cells
  have x0 : Exec S1 tab ye10_0 ([str s] ++ List.replicate (40 - [str s].length) undef) m = some (.normal, [str s, undef, .pointer (some ⟨B, 0, none⟩), .pointer (some ⟨B + 1, 0, none⟩), .pointer (some ⟨B + 2, 0, none⟩)] ++ List.replicate 35 undef, ((m.add ⟨.cells [.slice none 0 0] 22, false, none⟩).add ⟨.cells [.int .i64 0] 3, false, none⟩).add ⟨.cells [.int .i64 0] 24, false, none⟩) := by
    subst hB; rw [ye10_0, Exec_region]; rfl
  generalize hm1 : ((m.add ⟨.cells [.slice none 0 0] 22, false, none⟩).add ⟨.cells [.int .i64 0] 3, false, none⟩).add ⟨.cells [.int .i64 0] 24, false, none⟩ = m1 at x0
  have n1 : m1.next = B + 3 := by rw [← hm1]; simp [hB]
  have x1 : Exec S1 tab ye10_1 ([str s, undef, .pointer (some ⟨B, 0, none⟩), .pointer (some ⟨B + 1, 0, none⟩), .pointer (some ⟨B + 2, 0, none⟩)] ++ List.replicate 35 undef) m1 = some (.normal, [str s, undef, .pointer (some ⟨B, 0, none⟩), .pointer (some ⟨B + 1, 0, none⟩), .pointer (some ⟨B + 2, 0, none⟩), .pointer (some ⟨m1.next, 0, none⟩)] ++ List.replicate 34 undef, m1.add ⟨.cells [.slice none 0 0] 22, false, none⟩) := by
    rw [ye10_1, Exec_region]; rfl
  rw [n1] at x1
  generalize hm2 : m1.add ⟨.cells [.slice none 0 0] 22, false, none⟩ = m2 at x1
  have n2 : m2.next = B + 4 := by rw [← hm2]; simp [n1]
  have x2 : Exec S1 tab ye10_2 ([str s, undef, .pointer (some ⟨B, 0, none⟩), .pointer (some ⟨B + 1, 0, none⟩), .pointer (some ⟨B + 2, 0, none⟩), .pointer (some ⟨B + 3, 0, none⟩)] ++ List.replicate 34 undef) m2 = some (.normal, [str s, undef, .pointer (some ⟨B, 0, none⟩), .pointer (some ⟨B + 1, 0, none⟩), .pointer (some ⟨B + 2, 0, none⟩), .pointer (some ⟨B + 3, 0, none⟩), .pointer (some ⟨m2.next, 0, none⟩)] ++ List.replicate 33 undef, (m2.add ⟨.cells [.int .i64 0] 3, false, none⟩).put m2.next ⟨.cells [.int .i64 0] 3, false, none⟩) := by
    have hst := store_at (Mem.get_add_self m2 ⟨.cells [.int .i64 0] 3, false, none⟩) (o := 0) (v := .int .i64 0) (by simp) rfl rfl
    rw [ye10_2, Exec_region]
    have : runOps (Call S1 tab) [⟨some 6, .alloc 3 (.int .i64 0), none⟩, ⟨none, .store 1 (.tmp 6) (.const (.int .i64 0)), none⟩] ([str s, undef, .pointer (some ⟨B, 0, none⟩), .pointer (some ⟨B + 1, 0, none⟩), .pointer (some ⟨B + 2, 0, none⟩), .pointer (some ⟨B + 3, 0, none⟩)] ++ List.replicate 34 undef) m2 =
        (runStore 1 (.pointer (some ⟨m2.next, 0, none⟩)) (.int .i64 0) (m2.add ⟨.cells [.int .i64 0] 3, false, none⟩)).map fun m' => ([str s, undef, .pointer (some ⟨B, 0, none⟩), .pointer (some ⟨B + 1, 0, none⟩), .pointer (some ⟨B + 2, 0, none⟩), .pointer (some ⟨B + 3, 0, none⟩), .pointer (some ⟨m2.next, 0, none⟩)] ++ List.replicate 33 undef, m') := by
      rw [hst]
      simp -implicitDefEqProofs only [runOps, wantedA, X_seq, X_region, X_cond, X_block, Exec_ret, Exec_skip, Exec_exit, X_cons, X_nil, opsK_some, guardK_true, guardK_false, wanted_none, wanted_some, stepOp, AOp.run, aval, avals, avalO, aparts, plain, putT, runBox, runBuildSlice, List.length_cons, List.length_nil, List.cons_append, List.nil_append, List.replicate_succ, List.replicate_zero, List.length_replicate, Nat.reduceAdd, Nat.reduceSub, Nat.reduceMul, Nat.reduceLT, Nat.reduceLeDiff, Nat.reduceEqDiff, if_true, if_false, reduceIte, Bool.false_eq_true, Bool.true_eq_false, Option.bind_some, Option.map_some, Option.getD_some, List.set_cons_succ, List.set_cons_zero, List.getElem?_cons_succ, List.getElem?_cons_zero, List.length_set, List.getElem?_toArray, runEqNil, nilKind, bothNil, thenC_normal, thenC_ret, thenC_exit, condK_true, condK_false, mapN_some, mapB_normal, mapB_ret, mapB_exit, leave_ret, leave_normal, resVs, resV, oneOf, Option.isNone_none, Option.isNone_some, runNilck, runFieldAddr, asPtr, runUn, asB, capsOf, Bool.not_true, Bool.not_false, beq_self_eq_true, b_tf, b_ft, cells_agg, cells_int, cells_bool, cells_str, cells_ptr, cells_slice, cells_map, Nat.zero_add, Nat.add_zero, and_self, and_true, true_and, hst]
    rw [this, hst]; rfl
  rw [n2] at x2
  generalize hm3 : (m2.add ⟨.cells [.int .i64 0] 3, false, none⟩).put (B + 4) ⟨.cells [.int .i64 0] 3, false, none⟩ = m3 at x2
  have n3 : m3.next = B + 5 := by rw [← hm3]; simp [n2]
  have x3 : Exec S1 tab ye10_3 ([str s, undef, .pointer (some ⟨B, 0, none⟩), .pointer (some ⟨B + 1, 0, none⟩), .pointer (some ⟨B + 2, 0, none⟩), .pointer (some ⟨B + 3, 0, none⟩), .pointer (some ⟨B + 4, 0, none⟩)] ++ List.replicate 33 undef) m3 = some (.normal, rts (str s) (.func (.func 61) #[] #[.pointer (some ⟨m3.next + 1, 0, none⟩), .pointer (some ⟨m3.next, 0, none⟩), .pointer (some ⟨m3.next + 2, 0, none⟩)]) B undef undef, ((m3.add ⟨.cells [str s] 9, false, none⟩).add ⟨.cells [str [10]] 9, false, none⟩).add ⟨.cells [.int .i64 0] 3, false, none⟩) := by
    rw [ye10_3, Exec_region]
    have : runOps (Call S1 tab) [⟨some 11, .mov (.tmp 0), none⟩, ⟨some 12, .call 22 [.tmp 11, .const (.string ⟨#[10]⟩)], none⟩] ([str s, undef, .pointer (some ⟨B, 0, none⟩), .pointer (some ⟨B + 1, 0, none⟩), .pointer (some ⟨B + 2, 0, none⟩), .pointer (some ⟨B + 3, 0, none⟩), .pointer (some ⟨B + 4, 0, none⟩)] ++ List.replicate 33 undef) m3 =
        (Call S1 tab 22 [str s, .string ⟨#[10]⟩] m3).map fun p => (rts (str s) p.1 B undef undef, p.2) := by
      rw [splitSeq_ok]
      simp -implicitDefEqProofs only [runOps, wantedA, X_seq, X_region, X_cond, X_block, Exec_ret, Exec_skip, Exec_exit, X_cons, X_nil, opsK_some, guardK_true, guardK_false, wanted_none, wanted_some, stepOp, AOp.run, aval, avals, avalO, aparts, plain, putT, runBox, runBuildSlice, List.length_cons, List.length_nil, List.cons_append, List.nil_append, List.replicate_succ, List.replicate_zero, List.length_replicate, Nat.reduceAdd, Nat.reduceSub, Nat.reduceMul, Nat.reduceLT, Nat.reduceLeDiff, Nat.reduceEqDiff, if_true, if_false, reduceIte, Bool.false_eq_true, Bool.true_eq_false, Option.bind_some, Option.map_some, Option.getD_some, List.set_cons_succ, List.set_cons_zero, List.getElem?_cons_succ, List.getElem?_cons_zero, List.length_set, List.getElem?_toArray, runEqNil, nilKind, bothNil, thenC_normal, thenC_ret, thenC_exit, condK_true, condK_false, mapN_some, mapB_normal, mapB_ret, mapB_exit, leave_ret, leave_normal, resVs, resV, oneOf, Option.isNone_none, Option.isNone_some, runNilck, runFieldAddr, asPtr, runUn, asB, capsOf, Bool.not_true, Bool.not_false, beq_self_eq_true, b_tf, b_ft, cells_agg, cells_int, cells_bool, cells_str, cells_ptr, cells_slice, cells_map, Nat.zero_add, Nat.add_zero, and_self, and_true, true_and, splitSeq_ok, rts]
    rw [this, splitSeq_ok]; rfl
  rw [n3] at x3
  generalize hvf : Value.func (.func 61) #[] #[.pointer (some ⟨B + 5 + 1, 0, none⟩), .pointer (some ⟨B + 5, 0, none⟩), .pointer (some ⟨B + 5 + 2, 0, none⟩)] = vf at x3
  generalize hm4 : ((m3.add ⟨.cells [str s] 9, false, none⟩).add ⟨.cells [str [10]] 9, false, none⟩).add ⟨.cells [.int .i64 0] 3, false, none⟩ = m4 at x3
  have n4 : m4.next = B + 8 := by rw [← hm4]; simp [n3]
  -- what lies where
  have G4 : ∀ b, b < B → m4.get b = m.get b := fun b hb => by
    rw [← hm4, Mem.get_add_other _ _ (by simp; omega), Mem.get_add_other _ _ (by simp; omega), Mem.get_add_other _ _ (by omega), ← hm3, Mem.get_put, if_neg (by omega), Mem.get_add_other _ _ (by omega), ← hm2, Mem.get_add_other _ _ (by omega), ← hm1, Mem.get_add_other _ _ (by simp; omega), Mem.get_add_other _ _ (by simp; omega), Mem.get_add_other _ _ (by omega)]
  have up : ∀ b, b < B + 5 → m4.get b = m3.get b := fun b hb => by
    rw [← hm4, Mem.get_add_other _ _ (by simp; omega), Mem.get_add_other _ _ (by simp; omega), Mem.get_add_other _ _ (by omega)]
  have up2 : ∀ b, b < B + 3 → m3.get b = m1.get b := fun b hb => by
    rw [← hm3, Mem.get_put, if_neg (by omega), Mem.get_add_other _ _ (by omega), ← hm2, Mem.get_add_other _ _ (by omega)]
  have d0 : m4.get B = some ⟨.cells [.slice none 0 0] 22, false, none⟩ := by
    rw [up _ (by omega), up2 _ (by omega), ← hm1, Mem.get_add_other _ _ (by simp; omega), Mem.get_add_other _ _ (by simp; omega), ← hB, Mem.get_add_self]
  have d1 : m4.get (B + 1) = some ⟨.cells [.int .i64 0] 3, false, none⟩ := by
    rw [up _ (by omega), up2 _ (by omega), ← hm1, Mem.get_add_other _ _ (by simp; omega), Mem.get_add, if_pos (by simp; omega)]
  have d2 : m4.get (B + 2) = some ⟨.cells [.int .i64 0] 24, false, none⟩ := by
    rw [up _ (by omega), up2 _ (by omega), ← hm1, Mem.get_add, if_pos (by simp; omega)]
  have d3 : m4.get (B + 3) = some ⟨.cells [.slice none 0 0] 22, false, none⟩ := by
    rw [up _ (by omega), ← hm3, Mem.get_put, if_neg (by omega), Mem.get_add_other _ _ (by omega), ← hm2, Mem.get_add, if_pos (by omega)]
  have d4 : m4.get (B + 4) = some ⟨.cells [.int .i64 0] 3, false, none⟩ := by
    rw [up _ (by omega), ← hm3, Mem.get_put_self]
  have d5 : m4.get (B + 5) = some ⟨.cells [str s] 9, false, none⟩ := by
    rw [← hm4, Mem.get_add_other _ _ (by simp; omega), Mem.get_add_other _ _ (by simp; omega), Mem.get_add, if_pos (by omega)]
  have d6 : m4.get (B + 6) = some ⟨.cells [str [10]] 9, false, none⟩ := by
    rw [← hm4, Mem.get_add_other _ _ (by simp; omega), Mem.get_add, if_pos (by simp; omega)]
  have d7 : m4.get (B + 7) = some ⟨.cells [.int .i64 0] 3, false, none⟩ := by
    rw [← hm4, Mem.get_add, if_pos (by simp; omega)]
  generalize hm5 : (m4.add ⟨.deferR, false, none⟩).add ⟨.loopR (rts (str s) vf B undef undef) [13] ya10 yb10 .ready none, false, none⟩ = m5
  have n5 : m5.next = B + 10 := by rw [← hm5]; simp [n4]
  have G5 : ∀ b, b < B + 8 → m5.get b = m4.get b := fun b hb => by rw [← hm5, Mem.get_add_other _ _ (by simp; omega), Mem.get_add_other _ _ (by omega)]
  have d8 : m5.get (B + 8) = some ⟨.deferR, false, none⟩ := by rw [← hm5, Mem.get_add_other _ _ (by simp; omega), Mem.get_add, if_pos (by omega)]
  have d9 : m5.get (B + 9) = some ⟨.loopR (rts (str s) vf B undef undef) [13] ya10 yb10 .ready none, false, none⟩ := by rw [← hm5, Mem.get_add, if_pos (by simp; omega)]
  have hR : Rd B 0 [] m5 := ⟨by rw [G5 _ (by omega)]; exact d0, by rw [G5 _ (by omega)]; exact d1, by rw [G5 _ (by omega)]; exact d2, ⟨_, by rw [G5 _ (by omega)]; exact d3, TAp.nil _, by simp [blkOf]⟩, by rw [G5 _ (by omega)]; exact d4, by omega⟩
  have hg5 : Globs m5 := hg.keep (fun b hb => by rw [G5 _ (by omega), G4 _ (by omega)]) (by omega)
  obtain ⟨m6, hi, hK, hQ⟩ := iter_loop (x0 := str s) (vf := vf) hlow s.length s m5 0 [] (Nat.le_refl _) hs (by omega) (by simp) hg5 hR d9 (by rw [G5 _ (by omega)]; exact d5) (by rw [G5 _ (by omega)]; exact d6) (by rw [G5 _ (by omega)]; exact d7)
  have hit : Call (withY P S1 tab (B + 9)) tab 61 [.func (.yield (B + 9)) #[] #[], .pointer (some ⟨B + 6, 0, none⟩), .pointer (some ⟨B + 5, 0, none⟩), .pointer (some ⟨B + 7, 0, none⟩)] m5 = some (.tuple #[], m6) := by
    have l6 := load_at (show m5.get (B + 6) = _ from by rw [G5 _ (by omega)]; exact d6) (show [str [10]][0]? = some (str [10]) from rfl)
    rw [C61 _ (YsplitS (B + 9))]
    simp -implicitDefEqProofs only [Option.bind_some, W_some, W_nw, W_nws, W_nwAt, newVal, cnd_true, cnd_false, gdo_tt, gdo_ff, gdo_tf, gdo_ft, gdo_u, ar_lss, ar_leq, ar_gtr, ar_geq, ar_eql, ar_neq, asB_b, un_not, un_notd, max_i, min_i, Bool.not_true, Bool.not_false, decide_true, decide_false, decide_not, reduceIte, if_true, if_false, Bool.false_eq_true, not_true_eq_false, not_false_eq_true, Bool.true_eq_false, l6, len_str, List.length_cons, List.length_nil, show ¬ (((0 + 1 : Nat) : Int) = 0) by decide]
    exact hi
  -- the range
  have hrange : rangeX P S1 tab (.tmp 12) [13] ya10 yb10 (rts (str s) vf B undef undef) m4 = (match m6.get (B + 9) with
        | some ⟨.loopR _ _ _ _ st pend, false, none⟩ => if st = .busy then none else match pend with
          | none => some ((.normal, rts (str s) vf B undef undef, m6.kill (B + 9)), B + 8)
          | some .ret => some ((.ret, rts (str s) vf B undef undef, m6.kill (B + 9)), B + 8)
          | some (.exit id) => some ((.exit id, rts (str s) vf B undef undef, m6.kill (B + 9)), B + 8)
          | _ => none
        | _ => none) := by
    have hav : aval (rts (str s) vf B undef undef) (.tmp 12) = some vf := rfl
    unfold rangeX
    rw [hav, ← hvf]
    simp only [Option.bind_some]
    rw [if_pos (by decide), n4, hvf, hm5]
    have : (Value.func (.yield (B + 8 + 1)) #[] #[] :: (#[Value.pointer (some ⟨B + 5 + 1, 0, none⟩), .pointer (some ⟨B + 5, 0, none⟩), .pointer (some ⟨B + 5 + 2, 0, none⟩)] : Array Value).toList) = [.func (.yield (B + 9)) #[] #[], .pointer (some ⟨B + 6, 0, none⟩), .pointer (some ⟨B + 5, 0, none⟩), .pointer (some ⟨B + 7, 0, none⟩)] := rfl
    rw [this]
    show (Call (withY P S1 tab (B + 9)) tab _ _ m5).bind _ = _
    rw [hit]
    rfl
  have G6 : ∀ b, b < B → m6.get b = m.get b := fun b hb => by rw [hK.same b (.inl hb), G5 _ (by omega), G4 _ hb]
  have d86 : m6.get (B + 8) = some ⟨.deferR, false, none⟩ := (hK.same _ (.inr rfl)).trans d8
  have hnx := hK.next
  unfold readP
  revert hQ
  cases hrd : readGo (splitB 10 s) 0 [] with
  | more k acc =>
    rintro ⟨hR6, h96⟩
    obtain ⟨v, c3a, c3b, c3c⟩ := hR6.c3
    rw [h96] at hrange
    have hrange' : rangeX P S1 tab (.tmp 12) [13] ya10 yb10 (rts (str s) vf B undef undef) m4 = some ((.normal, rts (str s) vf B undef undef, m6.kill (B + 9)), B + 8) := hrange
    simp only [execX, x0, x1, x2, x3, Option.bind_some, Option.map_some, hrange', unblock]
    have K0 : ∀ b, b ≠ B + 9 → (m6.kill (B + 9)).get b = m6.get b := fun b hb => by rw [Mem.get_kill, if_neg hb]
    generalize hm7 : m6.kill (B + 9) = m7 at K0
    have n7 : m7.next = m6.next := by rw [← hm7]; rfl
    have e0 := (K0 B (by omega)).trans hR6.c0
    have e1 := (K0 (B + 1) (by omega)).trans hR6.c1
    have e2 := (K0 (B + 2) (by omega)).trans hR6.c2
    have e3 := (K0 (B + 3) (by omega)).trans c3a
    have hv7 : TAp encIn 37 m7 v acc := by
      rw [← hm7]
      have hne : B + 9 ∉ blkOf v := fun hm => by have := c3c _ hm; omega
      exact c3b.upd (Upd.kill (fp := [B + 9]) _ (by simp)) (fun b hb hm => by simp at hm; subst hm; exact hne hb)
    have st0 : runStore 1 (.pointer (some ⟨B, 0, none⟩)) v m7 = some (m7.put B ⟨.cells [v] 22, false, none⟩) := store_at e0 (o := 0) (v := v) (by simp) hv7.one.1 hv7.one.2
    have st1 : runStore 1 (.pointer (some ⟨B + 1, 0, none⟩)) (.int .i64 0) (m7.put B ⟨.cells [v] 22, false, none⟩) = some ((m7.put B ⟨.cells [v] 22, false, none⟩).put (B + 1) ⟨.cells [.int .i64 0] 3, false, none⟩) := store_at (m := m7.put B ⟨.cells [v] 22, false, none⟩) (show Mem.get _ (B + 1) = some ⟨.cells [.int .i64 0] 3, false, none⟩ from by rw [Mem.get_put, if_neg (by omega)]; exact e1) (o := 0) (v := .int .i64 0) (by simp) rfl rfl
    have st2 : runStore 1 (.pointer (some ⟨B + 2, 0, none⟩)) (.int .i64 0) ((m7.put B ⟨.cells [v] 22, false, none⟩).put (B + 1) ⟨.cells [.int .i64 0] 3, false, none⟩) = some (((m7.put B ⟨.cells [v] 22, false, none⟩).put (B + 1) ⟨.cells [.int .i64 0] 3, false, none⟩).put (B + 2) ⟨.cells [.int .i64 0] 24, false, none⟩) := store_at (m := (m7.put B ⟨.cells [v] 22, false, none⟩).put (B + 1) ⟨.cells [.int .i64 0] 3, false, none⟩) (show Mem.get _ (B + 2) = some ⟨.cells [.int .i64 0] 24, false, none⟩ from by rw [Mem.get_put, if_neg (by omega), Mem.get_put, if_neg (by omega)]; exact e2) (o := 0) (v := .int .i64 0) (by simp) rfl rfl
    have ld := load_at e3 (show [v][0]? = some v from rfl)
    have x4 : ∃ ts', Exec S1 tab ye10_4 (rts (str s) vf B undef undef) m7 = some (.ret, ts', ((m7.put B ⟨.cells [v] 22, false, none⟩).put (B + 1) ⟨.cells [.int .i64 0] 3, false, none⟩).put (B + 2) ⟨.cells [.int .i64 0] 24, false, none⟩) ∧ ts'[2]? = some (.pointer (some ⟨B, 0, none⟩)) ∧ ts'[3]? = some (.pointer (some ⟨B + 1, 0, none⟩)) ∧ ts'[4]? = some (.pointer (some ⟨B + 2, 0, none⟩)) := by
      refine ⟨(rts (str s) vf B undef undef).set 39 v, ?_, rfl, rfl, rfl⟩
      rw [ye10_4, rts]
      simp -implicitDefEqProofs only [runOps, wantedA, X_seq, X_region, X_cond, X_block, Exec_ret, Exec_skip, Exec_exit, X_cons, X_nil, opsK_some, guardK_true, guardK_false, wanted_none, wanted_some, stepOp, AOp.run, aval, avals, avalO, aparts, plain, putT, runBox, runBuildSlice, List.length_cons, List.length_nil, List.cons_append, List.nil_append, List.replicate_succ, List.replicate_zero, List.length_replicate, Nat.reduceAdd, Nat.reduceSub, Nat.reduceMul, Nat.reduceLT, Nat.reduceLeDiff, Nat.reduceEqDiff, if_true, if_false, reduceIte, Bool.false_eq_true, Bool.true_eq_false, Option.bind_some, Option.map_some, Option.getD_some, List.set_cons_succ, List.set_cons_zero, List.getElem?_cons_succ, List.getElem?_cons_zero, List.length_set, List.getElem?_toArray, runEqNil, nilKind, bothNil, thenC_normal, thenC_ret, thenC_exit, condK_true, condK_false, mapN_some, mapB_normal, mapB_ret, mapB_exit, leave_ret, leave_normal, resVs, resV, oneOf, Option.isNone_none, Option.isNone_some, runNilck, runFieldAddr, asPtr, runUn, asB, capsOf, Bool.not_true, Bool.not_false, beq_self_eq_true, b_tf, b_ft, cells_agg, cells_int, cells_bool, cells_str, cells_ptr, cells_slice, cells_map, Nat.zero_add, Nat.add_zero, and_self, and_true, true_and, ld, st0, st1, st2]
    obtain ⟨ts', x4, y2, y3, y4⟩ := x4
    simp only [x4, Option.map_some, Option.bind_some, leaveX]
    generalize hm8 : ((m7.put B ⟨.cells [v] 22, false, none⟩).put (B + 1) ⟨.cells [.int .i64 0] 3, false, none⟩).put (B + 2) ⟨.cells [.int .i64 0] 24, false, none⟩ = m8
    have n8 : m8.next = m6.next := by rw [← hm8]; exact n7
    have f0 : m8.get B = some ⟨.cells [v] 22, false, none⟩ := by rw [← hm8, Mem.get_put, if_neg (by omega), Mem.get_put, if_neg (by omega), Mem.get_put_self]
    have f1 : m8.get (B + 1) = some ⟨.cells [.int .i64 0] 3, false, none⟩ := by rw [← hm8, Mem.get_put, if_neg (by omega), Mem.get_put_self]
    have f2 : m8.get (B + 2) = some ⟨.cells [.int .i64 0] 24, false, none⟩ := by rw [← hm8, Mem.get_put_self]
    have f8 : m8.get (B + 8) = some ⟨.deferR, false, none⟩ := by rw [← hm8, Mem.get_put, if_neg (by omega), Mem.get_put, if_neg (by omega), Mem.get_put, if_neg (by omega), K0 _ (by omega)]; exact d86
    have G8 : ∀ b, b < B → m8.get b = m.get b := fun b hb => by rw [← hm8, Mem.get_put, if_neg (by omega), Mem.get_put, if_neg (by omega), Mem.get_put, if_neg (by omega), K0 _ (by omega)]; exact G6 b hb
    have hv8 : TAp encIn 37 m8 v acc := by
      rw [← hm8]
      have q : ∀ {M : Mem} {b : Nat} (x : ABlk), b < B + 10 → TAp encIn 37 M v acc → TAp encIn 37 (M.put b x) v acc := fun {M b} x hb h => h.upd (Upd.put (fp := [b]) _ _ (by simp)) (fun c hc hm => by simp at hm; subst hm; have := c3c _ hc; omega)
      exact q _ (by omega) (q _ (by omega) (q _ (by omega) hv7))
    rw [f8]
    have kg : ∀ b, b ≠ B + 8 → (m8.kill (B + 8)).get b = m8.get b := fun b hb => by rw [Mem.get_kill, if_neg hb]
    have r0 := load_at ((kg B (by omega)).trans f0) (show [v][0]? = some v from rfl)
    have r1 := load_at ((kg (B + 1) (by omega)).trans f1) (show [Value.int .i64 0][0]? = some (.int .i64 0) from rfl)
    have r2 := load_at ((kg (B + 2) (by omega)).trans f2) (show [Value.int .i64 0][0]? = some (.int .i64 0) from rfl)
    simp only [resVs, resV, y2, y3, y4, Option.getD_some, r0, r1, r2, Option.map_some]
    refine W_some.2 ⟨v, rfl, ?_, ⟨?_, fun b hb _ => ?_⟩, fun b hb => ?_⟩
    · exact hv8.upd (Upd.kill (fp := [B + 8]) _ (by simp)) (fun b hb hm => by simp at hm; subst hm; have := c3c _ hb; omega)
    · show m.next ≤ m8.next; omega
    · rw [kg b (by omega)]; exact G8 b (by omega)
    · have := c3c b hb; omega
  | err k e =>
    rintro ⟨hR6, h96⟩
    rw [h96] at hrange
    have hrange' : rangeX P S1 tab (.tmp 12) [13] ya10 yb10 (rts (str s) vf B undef undef) m4 = some ((.ret, rts (str s) vf B undef undef, m6.kill (B + 9)), B + 8) := hrange
    simp only [execX, x0, x1, x2, x3, Option.bind_some, Option.map_some, hrange', unblock, leaveX]
    have K0 : ∀ b, b ≠ B + 9 → (m6.kill (B + 9)).get b = m6.get b := fun b hb => by rw [Mem.get_kill, if_neg hb]
    generalize hm7 : m6.kill (B + 9) = m7 at K0
    have n7 : m7.next = m6.next := by rw [← hm7]; rfl
    rw [K0 (B + 8) (by omega), d86]
    have kg : ∀ b, b ≠ B + 8 → (m7.kill (B + 8)).get b = m7.get b := fun b hb => by rw [Mem.get_kill, if_neg hb]
    have y2 : (rts (str s) vf B undef undef)[2]? = some (.pointer (some ⟨B, 0, none⟩)) := rfl
    have y3 : (rts (str s) vf B undef undef)[3]? = some (.pointer (some ⟨B + 1, 0, none⟩)) := rfl
    have y4 : (rts (str s) vf B undef undef)[4]? = some (.pointer (some ⟨B + 2, 0, none⟩)) := rfl
    have r0 := load_at ((kg B (by omega)).trans ((K0 B (by omega)).trans hR6.c0)) (show [Value.slice none 0 0][0]? = some (.slice none 0 0) from rfl)
    have r1 := load_at ((kg (B + 1) (by omega)).trans ((K0 (B + 1) (by omega)).trans hR6.c1)) (show [Value.int .i64 (k : Int)][0]? = some (.int .i64 (k : Int)) from rfl)
    have r2 := load_at ((kg (B + 2) (by omega)).trans ((K0 (B + 2) (by omega)).trans hR6.c2)) (show [Value.int .i64 e][0]? = some (.int .i64 e) from rfl)
    simp only [resVs, resV, y2, y3, y4, Option.getD_some, r0, r1, r2, Option.map_some]
    refine W_some.2 ⟨_, rfl, TAp.nil _, ⟨?_, fun b hb _ => ?_⟩, fun b hb => by simp [blkOf] at hb⟩
    · show m.next ≤ m7.next; omega
    · rw [kg b (by omega), K0 b (by omega)]; exact G6 b (by omega)
theorem read_ok {s : List UInt8} {m : Mem} (hs : s.length ≤ 1048576) (hg : Globs m) : W (Call S tab 10 [str s] m) fun r m' => ∃ v, r = .tuple #[v, .int .i64 ((readP s).2.1 : Int), .int .i64 (readP s).2.2] ∧ TAp encIn 37 m' v (readP s).1 ∧ Upd [] m m' ∧ ∀ b ∈ blkOf v, m.next ≤ b := by
  refine (readS_ok hs hg).le fun r h => Call_hook ?_
  unfold S
  rw [if_pos rfl]; exact h
end Go.Fx.Tryz
