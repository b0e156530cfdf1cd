/- What is read, written again, has just its words. -/
import Derived.Test.YtgmkehbebpljjaaDoorTextR
namespace Go.Fx.Tryd
open Go Go.Fx
set_option linter.unusedSimpArgs false
set_option linter.unusedVariables false

theorem split_loop {s : List UInt8} {c : UInt8} (hs : s.length ≤ 2 ^ 30) : ∀ (d i frm : Nat) (m : Mem) (v : Value) (l : List (List UInt8)), i + d = s.length → frm ≤ i → TAp encS 9 m v l → l.length ≤ i →
    W (P10_0 (str s) (.int .u8 (c.toNat : Int)) v (.int .i64 (frm : Int)) (.int .i64 (i : Int)) m) fun r m' => TAp encS 9 m' r (l ++ splitGo c (pieceP s (frm, i)) (s.drop i)) ∧ Upd (blkOf v) m m' ∧ ∀ b ∈ blkOf r, b ∈ blkOf v ∨ m.next ≤ b := by
  intro d
  induction d with
  | zero =>
    intro i frm m v l hd hf h hl
    obtain rfl : i = s.length := by omega
    rw [P10_0_eq]
    simp -implicitDefEqProofs only [Option.bind_some, W_some, W_nw, W_nws, W_nwAt, newVal, cnd_true, cnd_false, gdo_tt, gdo_ff, gdo_tf, gdo_ft, gdo_u, ar_lss, ar_leq, ar_gtr, ar_geq, ar_eql, ar_neq, asB_b, un_not, un_notd, max_i, min_i, Bool.not_true, Bool.not_false, decide_true, decide_false, decide_not, reduceIte, if_true, if_false, Bool.false_eq_true, not_true_eq_false, not_false_eq_true, Bool.true_eq_false, len_str, Int.le_refl, slice_str (l := s) hf (Nat.le_refl _), afill_s]
    refine app_new (E := encS) [(s.drop frm).take (s.length - frm)] (by decide) h (by simp; omega) fun v' m' g1 g2 g3 => ?_
    rw [i64_succ (show s.length < 2 ^ 62 by omega)]
    have hgt : ¬ (((s.length + 1 : Nat) : Int) ≤ (s.length : Int)) := by omega
    simp -implicitDefEqProofs only [Option.bind_some, W_some, W_nw, W_nws, W_nwAt, newVal, cnd_true, cnd_false, gdo_tt, gdo_ff, gdo_tf, gdo_ft, gdo_u, ar_lss, ar_leq, ar_gtr, ar_geq, ar_eql, ar_neq, asB_b, un_not, un_notd, max_i, min_i, Bool.not_true, Bool.not_false, decide_true, decide_false, decide_not, reduceIte, if_true, if_false, Bool.false_eq_true, not_true_eq_false, not_false_eq_true, Bool.true_eq_false]
    rw [P10_0_eq]
    simp -implicitDefEqProofs only [Option.bind_some, W_some, W_nw, W_nws, W_nwAt, newVal, cnd_true, cnd_false, gdo_tt, gdo_ff, gdo_tf, gdo_ft, gdo_u, ar_lss, ar_leq, ar_gtr, ar_geq, ar_eql, ar_neq, asB_b, un_not, un_notd, max_i, min_i, Bool.not_true, Bool.not_false, decide_true, decide_false, decide_not, reduceIte, if_true, if_false, Bool.false_eq_true, not_true_eq_false, not_false_eq_true, Bool.true_eq_false, len_str, hgt]
    exact ⟨by rw [List.drop_length, splitGo]; exact g1, g2, g3⟩
  | succ d ih =>
    intro i frm m v l hd hf h hl
    have hi : i < s.length := by omega
    have hle : (i : Int) ≤ (s.length : Int) := by omega
    have hne : ¬ ((i : Int) = (s.length : Int)) := by omega
    have hx := idx_str (l := s) (i := i) (List.getElem?_eq_getElem hi)
    have hdrop : s.drop i = s[i] :: s.drop (i + 1) := List.drop_eq_getElem_cons hi
    have hpm : pieceP s (frm, i + 1) = pieceP s (frm, i) ++ [s[i]] := by
      rw [piece_more (w := 1) hf, hdrop, List.take_succ_cons, List.take_zero]
    rw [hdrop]
    generalize s[i] = x at hx hpm
    rw [P10_0_eq]
    by_cases hc : x = c
    · have hcc : ((x.toNat : Int) = (c.toNat : Int)) = True := by simp [hc]
      simp -implicitDefEqProofs only [Option.bind_some, W_some, W_nw, W_nws, W_nwAt, newVal, cnd_true, cnd_false, gdo_tt, gdo_ff, gdo_tf, gdo_ft, gdo_u, ar_lss, ar_leq, ar_gtr, ar_geq, ar_eql, ar_neq, asB_b, un_not, un_notd, max_i, min_i, Bool.not_true, Bool.not_false, decide_true, decide_false, decide_not, reduceIte, if_true, if_false, Bool.false_eq_true, not_true_eq_false, not_false_eq_true, Bool.true_eq_false, len_str, hle, hne, hx, hcc, slice_str (l := s) hf (Nat.le_of_lt hi), afill_s]
      refine app_new (E := encS) [(s.drop frm).take (i - frm)] (by decide) h (by simp; omega) fun v' m' g1 g2 g3 => ?_
      simp -implicitDefEqProofs only [Option.bind_some, W_some, W_nw, W_nws, W_nwAt, newVal, cnd_true, cnd_false, gdo_tt, gdo_ff, gdo_tf, gdo_ft, gdo_u, ar_lss, ar_leq, ar_gtr, ar_geq, ar_eql, ar_neq, asB_b, un_not, un_notd, max_i, min_i, Bool.not_true, Bool.not_false, decide_true, decide_false, decide_not, reduceIte, if_true, if_false, Bool.false_eq_true, not_true_eq_false, not_false_eq_true, Bool.true_eq_false, i64_succ (show i < 2 ^ 62 by omega)]
      refine (ih (i + 1) (i + 1) m' v' _ (by omega) (Nat.le_refl _) g1 (by simp; omega)).mono fun r m2 ⟨q1, q2, q3⟩ => ⟨?_, g2.then' q2 g3, fun b hb => ?_⟩
      · rw [splitGo, if_pos hc]
        have : pieceP s (i + 1, i + 1) = [] := by simp [pieceP]
        rw [this] at q1
        simpa [pieceP] using q1
      · rcases q3 b hb with q | q
        · exact g3 b q
        · exact .inr (Nat.le_trans g2.next q)
    · have hcc : ((x.toNat : Int) = (c.toNat : Int)) = False := by
        simp only [eq_iff_iff, iff_false]
        intro e
        exact hc (UInt8.toNat_inj.1 (by omega))
      simp -implicitDefEqProofs only [Option.bind_some, W_some, W_nw, W_nws, W_nwAt, newVal, cnd_true, cnd_false, gdo_tt, gdo_ff, gdo_tf, gdo_ft, gdo_u, ar_lss, ar_leq, ar_gtr, ar_geq, ar_eql, ar_neq, asB_b, un_not, un_notd, max_i, min_i, Bool.not_true, Bool.not_false, decide_true, decide_false, decide_not, reduceIte, if_true, if_false, Bool.false_eq_true, not_true_eq_false, not_false_eq_true, Bool.true_eq_false, len_str, hle, hne, hx, hcc, i64_succ (show i < 2 ^ 62 by omega)]
      refine (ih (i + 1) frm m v l (by omega) (by omega) h (by omega)).mono fun r m2 ⟨q1, q2, q3⟩ => ⟨?_, q2, q3⟩
      rw [splitGo, if_neg hc, ← hpm]
      exact q1
theorem rsplit_ok {s : List UInt8} (c : UInt8) (hs : s.length ≤ 2 ^ 30) (m : Mem) : W (Call S1 tab 10 [str s, .int .u8 (c.toNat : Int)] m) fun r m' => TAp encS 9 m' r (splitB c s) ∧ Upd [] m m' ∧ ∀ b ∈ blkOf r, m.next ≤ b := by
  rw [C10]
  refine (split_loop hs s.length 0 0 m (.slice none 0 0) [] (by omega) (Nat.le_refl _) (TAp.nil _) (by simp)).mono fun r m' ⟨q1, q2, q3⟩ => ⟨?_, q2.mono (fun b hb => by simp [blkOf] at hb), fun b hb => ?_⟩
  · have : pieceP s (0, 0) = [] := by simp [pieceP]
    rw [this] at q1
    simpa [splitB] using q1
  · rcases q3 b hb with q | q
    · simp [blkOf] at q
    · exact q

theorem rwords_loop {ls : List (List UInt8)} {lv : Value} (hn : ls.length ≤ 2 ^ 40) : ∀ (d i : Nat) (m : Mem) (v : Value) (l : List (List UInt8)), i + d = ls.length → (∀ m', Upd (blkOf v) m m' → TSl encS m' lv ls) → TAp encS 9 m v l → l.length ≤ i →
    W (P11_0 v lv (.int .i64 (i : Int)) m) fun r m' => TAp encS 9 m' r (l ++ (ls.drop i).filter (fun x => decide (x ≠ []))) ∧ Upd (blkOf v) m m' ∧ ∀ b ∈ blkOf r, b ∈ blkOf v ∨ m.next ≤ b := by
  intro d
  induction d with
  | zero =>
    intro i m v l hd hT h hl
    obtain rfl : i = ls.length := by omega
    rw [P11_0_eq]
    simp -implicitDefEqProofs only [Option.bind_some, W_some, W_nw, W_nws, W_nwAt, newVal, cnd_true, cnd_false, gdo_tt, gdo_ff, gdo_tf, gdo_ft, gdo_u, ar_lss, ar_leq, ar_gtr, ar_geq, ar_eql, ar_neq, asB_b, un_not, un_notd, max_i, min_i, Bool.not_true, Bool.not_false, decide_true, decide_false, decide_not, reduceIte, if_true, if_false, Bool.false_eq_true, not_true_eq_false, not_false_eq_true, Bool.true_eq_false, (hT m (Upd.refl _ _)).len, Int.lt_irrefl]
    exact ⟨by simpa using h, Upd.refl _ _, fun b hb => .inl hb⟩
  | succ d ih =>
    intro i m v l hd hT h hl
    have hi : i < ls.length := by omega
    have hlt : (i : Int) < (ls.length : Int) := by omega
    have hT0 := hT m (Upd.refl _ _)
    obtain ⟨p, p1, p2⟩ := idx_s hT0 hi
    have hdrop : ls.drop i = ls[i] :: ls.drop (i + 1) := List.drop_eq_getElem_cons hi
    rw [hdrop]
    generalize ls[i] = w at p2
    have hq : arith .neq (str w) (.string ⟨#[]⟩) = some (.bool (decide (¬ w = []))) := neq_str w []
    rw [P11_0_eq]
    by_cases hw : w = []
    · have hw' := eq_true hw
      simp -implicitDefEqProofs only [Option.bind_some, W_some, W_nw, W_nws, W_nwAt, newVal, cnd_true, cnd_false, gdo_tt, gdo_ff, gdo_tf, gdo_ft, gdo_u, ar_lss, ar_leq, ar_gtr, ar_geq, ar_eql, ar_neq, asB_b, un_not, un_notd, max_i, min_i, Bool.not_true, Bool.not_false, decide_true, decide_false, decide_not, reduceIte, if_true, if_false, Bool.false_eq_true, not_true_eq_false, not_false_eq_true, Bool.true_eq_false, hT0.len, hlt, p1, p2, hq, hw', i64_succ (show i < 2 ^ 62 by omega)]
      refine (ih (i + 1) m v l (by omega) hT h (by omega)).mono fun r m2 ⟨q1, q2, q3⟩ => ⟨?_, q2, q3⟩
      rw [List.filter_cons_of_neg (by simp [hw])]
      simpa using q1
    · simp -implicitDefEqProofs only [Option.bind_some, W_some, W_nw, W_nws, W_nwAt, newVal, cnd_true, cnd_false, gdo_tt, gdo_ff, gdo_tf, gdo_ft, gdo_u, ar_lss, ar_leq, ar_gtr, ar_geq, ar_eql, ar_neq, asB_b, un_not, un_notd, max_i, min_i, Bool.not_true, Bool.not_false, decide_true, decide_false, decide_not, reduceIte, if_true, if_false, Bool.false_eq_true, not_true_eq_false, not_false_eq_true, Bool.true_eq_false, hT0.len, hlt, p1, p2, hq, hw, afill_s]
      refine app_new (E := encS) [w] (by decide) h (by simp; omega) fun v' m' g1 g2 g3 => ?_
      simp -implicitDefEqProofs only [Option.bind_some, W_some, W_nw, W_nws, W_nwAt, newVal, cnd_true, cnd_false, gdo_tt, gdo_ff, gdo_tf, gdo_ft, gdo_u, ar_lss, ar_leq, ar_gtr, ar_geq, ar_eql, ar_neq, asB_b, un_not, un_notd, max_i, min_i, Bool.not_true, Bool.not_false, decide_true, decide_false, decide_not, reduceIte, if_true, if_false, Bool.false_eq_true, not_true_eq_false, not_false_eq_true, Bool.true_eq_false, i64_succ (show i < 2 ^ 62 by omega)]
      refine (ih (i + 1) m' v' _ (by omega) (fun m2 h2 => hT m2 (g2.then' h2 g3)) g1 (by simp; omega)).mono fun r m2 ⟨q1, q2, q3⟩ => ⟨?_, g2.then' q2 g3, fun b hb => ?_⟩
      · rw [List.filter_cons_of_pos (by simp [hw])]
        simpa using q1
      · rcases q3 b hb with q | q
        · exact g3 b q
        · exact .inr (Nat.le_trans g2.next q)
theorem rwords_ok {s : List UInt8} (hs : s.length ≤ 2 ^ 30) (m : Mem) : W (Call S1 tab 11 [str s] m) fun r m' => TAp encS 9 m' r (fieldsW s) ∧ Upd [] m m' ∧ ∀ b ∈ blkOf r, m.next ≤ b := by
  rw [C11]
  refine W.bind (rsplit_ok 32 hs m) fun lv m1 ⟨h1, u1, b1⟩ => ?_
  have hlen := (splitB_len 32 s).1
  have hlt := h1.lt
  refine (rwords_loop (ls := splitB 32 s) (lv := lv) (by omega) (splitB 32 s).length 0 m1 (.slice none 0 0) [] (by omega) (fun m' h' => h1.tsl.upd h' (fun b hb => ⟨hlt b hb, by simp [blkOf]⟩)) (TAp.nil _) (by simp)).mono fun r m' ⟨q1, q2, q3⟩ => ⟨?_, u1.then' q2 (fun b hb => by simp [blkOf] at hb), fun b hb => ?_⟩
  · have : fieldsW s = (splitB 32 s).filter (fun x => decide (x ≠ [])) := fields_split s []
    rw [this]
    simpa using q1
  · rcases q3 b hb with q | q
    · simp [blkOf] at q
    · exact Nat.le_trans u1.next q

theorem wgo_total : ∀ (l cur : List UInt8), total (wgo cur l) ≤ cur.length + l.length
  | [], cur => by
    unfold wgo
    split <;> simp [total]
  | c :: r, cur => by
    unfold wgo
    split
    · split
      · have := wgo_total r []
        simp at this ⊢; omega
      · have := wgo_total r []
        simp [total] at this ⊢; omega
    · have := wgo_total r (cur ++ [c])
      simp at this ⊢; omega
theorem join_le : ∀ (ws : List (List UInt8)), (joinP ws).length ≤ total ws + ws.length
  | [] => by simp [joinP]
  | w :: r => by
    have := sepP_len r
    simp only [joinP, List.length_append, total, List.map_cons, List.sum_cons, List.length_cons] at this ⊢
    omega
theorem total_take (k : Nat) (ws : List (List UInt8)) : total (ws.take k) ≤ total ws := by
  have h : total ws = total (ws.take k) + total (ws.drop k) := by rw [← total_append, List.take_append_drop]
  omega
theorem join_take {ws : List (List UInt8)} {k : Nat} (h1 : 1 ≤ k) (hk : k < ws.length) : joinP (ws.take (k + 1)) = joinP (ws.take k) ++ 32 :: ws[k] := by
  match ws, k, h1, hk with
  | w :: r, k + 1, _, hk =>
    have hk' : k < r.length := by simpa using hk
    have e : r.take (k + 1) = r.take k ++ [r[k]] := by rw [List.take_add_one, List.getElem?_eq_getElem hk']; rfl
    rw [List.take_succ_cons, List.take_succ_cons, e]
    simp only [joinP, sepP, List.flatMap_append, List.flatMap_cons, List.flatMap_nil, List.append_nil, List.append_assoc, List.getElem_cons_succ]

theorem only_words {ws : List (List UInt8)} {t w0 : List UInt8} {lv iv wv : Value} {m : Mem} (hT : TSl encS m wv ws) (hn : ws.length ≤ 2 ^ 30) (ht : total ws ≤ 2 ^ 30) (h0 : w0.length ≤ 2 ^ 50) : ∀ (d k : Nat), k + d = ws.length →
    P4_1 (str t) (str (w0 ++ joinP (ws.take k))) lv iv wv (.int .i64 (k : Int)) m = P4_3 (str t) (str (w0 ++ joinP ws)) lv iv wv m := by
  intro d
  induction d with
  | zero =>
    intro k hd
    obtain rfl : k = ws.length := by omega
    rw [P4_1_eq]
    simp -implicitDefEqProofs only [Option.bind_some, W_some, W_nw, W_nws, W_nwAt, newVal, cnd_true, cnd_false, gdo_tt, gdo_ff, gdo_tf, gdo_ft, gdo_u, ar_lss, ar_leq, ar_gtr, ar_geq, ar_eql, ar_neq, asB_b, un_not, un_notd, max_i, min_i, Bool.not_true, Bool.not_false, decide_true, decide_false, decide_not, reduceIte, if_true, if_false, Bool.false_eq_true, not_true_eq_false, not_false_eq_true, Bool.true_eq_false, hT.len, Int.lt_irrefl, List.take_length]
  | succ d ih =>
    intro k hd
    have hk : k < ws.length := by omega
    have hlt : (k : Int) < (ws.length : Int) := by omega
    obtain ⟨p, p1, p2⟩ := idx_s hT hk
    have b1 := join_le (ws.take k)
    have b2 := total_take k ws
    have b3 : (ws.take k).length ≤ ws.length := by rw [List.length_take]; omega
    have b4 : (ws[k]).length ≤ total ws := by
      have h : total ws = total (ws.take k) + total (ws.drop k) := by rw [← total_append, List.take_append_drop]
      rw [List.drop_eq_getElem_cons hk] at h
      simp only [total, List.map_cons, List.sum_cons] at h ⊢
      omega
    rw [P4_1_eq]
    by_cases h1 : 1 ≤ k
    · have hk0 : (0 : Int) < (k : Int) := by omega
      have c1 : arith .add (str (w0 ++ joinP (ws.take k))) (.string ⟨#[32]⟩) = some (str (w0 ++ joinP (ws.take k) ++ [32])) := cat_str (by simp only [List.length_append, List.length_cons, List.length_nil]; omega)
      have c2 : arith .add (str (w0 ++ joinP (ws.take k) ++ [32])) (str ws[k]) = some (str (w0 ++ joinP (ws.take k) ++ [32] ++ ws[k])) := cat_str (by simp only [List.length_append, List.length_cons, List.length_nil]; omega)
      have c3 : w0 ++ joinP (ws.take k) ++ [32] ++ ws[k] = w0 ++ joinP (ws.take (k + 1)) := by rw [join_take h1 hk]; simp
      simp -implicitDefEqProofs only [Option.bind_some, W_some, W_nw, W_nws, W_nwAt, newVal, cnd_true, cnd_false, gdo_tt, gdo_ff, gdo_tf, gdo_ft, gdo_u, ar_lss, ar_leq, ar_gtr, ar_geq, ar_eql, ar_neq, asB_b, un_not, un_notd, max_i, min_i, Bool.not_true, Bool.not_false, decide_true, decide_false, decide_not, reduceIte, if_true, if_false, Bool.false_eq_true, not_true_eq_false, not_false_eq_true, Bool.true_eq_false, hT.len, hlt, hk0, c1]
      rw [P4_2_eq]
      simp -implicitDefEqProofs only [Option.bind_some, W_some, W_nw, W_nws, W_nwAt, newVal, cnd_true, cnd_false, gdo_tt, gdo_ff, gdo_tf, gdo_ft, gdo_u, ar_lss, ar_leq, ar_gtr, ar_geq, ar_eql, ar_neq, asB_b, un_not, un_notd, max_i, min_i, Bool.not_true, Bool.not_false, decide_true, decide_false, decide_not, reduceIte, if_true, if_false, Bool.false_eq_true, not_true_eq_false, not_false_eq_true, Bool.true_eq_false, p1, p2, c2, c3, i64_succ (show k < 2 ^ 62 by omega)]
      exact ih (k + 1) (by omega)
    · obtain rfl : k = 0 := by omega
      have hk0 : ¬ ((0 : Int) < ((0 : Nat) : Int)) := by omega
      have c2 : arith .add (str (w0 ++ joinP (ws.take 0))) (str ws[0]) = some (str (w0 ++ joinP (ws.take 0) ++ ws[0])) := cat_str (by simp only [List.length_append, List.take_zero, joinP, List.length_nil]; omega)
      have c3 : w0 ++ joinP (ws.take 0) ++ ws[0] = w0 ++ joinP (ws.take (0 + 1)) := by
        match ws, hk with
        | w :: r, _ => simp [joinP, sepP]
      simp -implicitDefEqProofs only [Option.bind_some, W_some, W_nw, W_nws, W_nwAt, newVal, cnd_true, cnd_false, gdo_tt, gdo_ff, gdo_tf, gdo_ft, gdo_u, ar_lss, ar_leq, ar_gtr, ar_geq, ar_eql, ar_neq, asB_b, un_not, un_notd, max_i, min_i, Bool.not_true, Bool.not_false, decide_true, decide_false, decide_not, reduceIte, if_true, if_false, Bool.false_eq_true, not_true_eq_false, not_false_eq_true, Bool.true_eq_false, hT.len, hlt, hk0]
      rw [P4_2_eq]
      simp -implicitDefEqProofs only [Option.bind_some, W_some, W_nw, W_nws, W_nwAt, newVal, cnd_true, cnd_false, gdo_tt, gdo_ff, gdo_tf, gdo_ft, gdo_u, ar_lss, ar_leq, ar_gtr, ar_geq, ar_eql, ar_neq, asB_b, un_not, un_notd, max_i, min_i, Bool.not_true, Bool.not_false, decide_true, decide_false, decide_not, reduceIte, if_true, if_false, Bool.false_eq_true, not_true_eq_false, not_false_eq_true, Bool.true_eq_false, p1, p2, c2, c3, i64_succ (show 0 < 2 ^ 62 by omega)]
      exact ih (0 + 1) (by omega)

set_option maxRecDepth 100000 in
theorem only_loop {ls : List (List UInt8)} {t : List UInt8} {lv : Value} (hn : ls.length ≤ 2 ^ 21) (hl : ∀ x ∈ ls, x.length ≤ 1048576) : ∀ (d i : Nat) (m : Mem) (w0 : List UInt8), i + d = ls.length → TSl encS m lv ls → (∀ b ∈ blkOf lv, b < m.next) → w0.length ≤ i * 2 ^ 22 →
    W (P4_0 (str t) (str w0) lv (.int .i64 (i : Int)) m) fun r m' => r = .bool (decide (t = w0 ++ (ls.drop i).flatMap wantL)) := by
  intro d
  induction d with
  | zero =>
    intro i m w0 hd hT hb h0
    obtain rfl : i = ls.length := by omega
    rw [P4_0_eq]
    simp -implicitDefEqProofs only [Option.bind_some, W_some, W_nw, W_nws, W_nwAt, newVal, cnd_true, cnd_false, gdo_tt, gdo_ff, gdo_tf, gdo_ft, gdo_u, ar_lss, ar_leq, ar_gtr, ar_geq, ar_eql, ar_neq, asB_b, un_not, un_notd, max_i, min_i, Bool.not_true, Bool.not_false, decide_true, decide_false, decide_not, reduceIte, if_true, if_false, Bool.false_eq_true, not_true_eq_false, not_false_eq_true, Bool.true_eq_false, hT.len, Int.lt_irrefl, eql_str]
    simp
  | succ d ih =>
    intro i m w0 hd hT hb h0
    have hi : i < ls.length := by omega
    have hlt : (i : Int) < (ls.length : Int) := by omega
    obtain ⟨p, p1, p2⟩ := idx_s hT hi
    have hdrop : ls.drop i = ls[i] :: ls.drop (i + 1) := List.drop_eq_getElem_cons hi
    have hx := hl _ (List.getElem_mem hi)
    rw [hdrop]
    generalize ls[i] = ln at p2 hx
    have hf := fieldsW_len ln
    have htot : total (fieldsW ln) ≤ ln.length := by have := wgo_total ln []; simpa [fieldsW] using this
    have hj := join_le (fieldsW ln)
    rw [P4_0_eq]
    simp -implicitDefEqProofs only [Option.bind_some, W_some, W_nw, W_nws, W_nwAt, newVal, cnd_true, cnd_false, gdo_tt, gdo_ff, gdo_tf, gdo_ft, gdo_u, ar_lss, ar_leq, ar_gtr, ar_geq, ar_eql, ar_neq, asB_b, un_not, un_notd, max_i, min_i, Bool.not_true, Bool.not_false, decide_true, decide_false, decide_not, reduceIte, if_true, if_false, Bool.false_eq_true, not_true_eq_false, not_false_eq_true, Bool.true_eq_false, hT.len, hlt, p1, p2]
    refine W.bind (up (rwords_ok (s := ln) (by omega) m)) fun wv m1 ⟨h1, u1, _⟩ => ?_
    have hT1 := hT.upd u1 (fun b hh => ⟨hb b hh, by simp⟩)
    have e0 : str w0 = str (w0 ++ joinP ((fieldsW ln).take 0)) := by simp [joinP]
    rw [e0, show (Value.int .i64 0) = .int .i64 ((0 : Nat) : Int) from rfl, only_words (t := t) (w0 := w0) (lv := lv) (iv := .int .i64 (i : Int)) h1.tsl (by omega) (by omega) (by omega) (fieldsW ln).length 0 (by omega)]
    rw [P4_3_eq]
    by_cases hnil : fieldsW ln = []
    · have hl0 : ¬ ((0 : Int) < ((fieldsW ln).length : Int)) := by rw [hnil]; decide
      simp -implicitDefEqProofs only [Option.bind_some, W_some, W_nw, W_nws, W_nwAt, newVal, cnd_true, cnd_false, gdo_tt, gdo_ff, gdo_tf, gdo_ft, gdo_u, ar_lss, ar_leq, ar_gtr, ar_geq, ar_eql, ar_neq, asB_b, un_not, un_notd, max_i, min_i, Bool.not_true, Bool.not_false, decide_true, decide_false, decide_not, reduceIte, if_true, if_false, Bool.false_eq_true, not_true_eq_false, not_false_eq_true, Bool.true_eq_false, h1.tsl.len, hl0, i64_succ (show i < 2 ^ 62 by omega)]
      have ew : w0 ++ joinP (fieldsW ln) = w0 := by rw [hnil]; simp [joinP]
      rw [ew]
      have h01 : w0.length ≤ (i + 1) * 2 ^ 22 := Nat.le_trans h0 (Nat.mul_le_mul_right _ (Nat.le_succ i))
      refine (ih (i + 1) m1 w0 (by omega) hT1 (fun b hh => Nat.lt_of_lt_of_le (hb b hh) u1.next) h01).mono fun r m' hr => ?_
      rw [hr]
      simp [wantL, hnil]
    · have hl0 : (0 : Int) < ((fieldsW ln).length : Int) := by
        have := List.length_pos_iff.2 hnil
        omega
      have c1 : arith .add (str (w0 ++ joinP (fieldsW ln))) (.string ⟨#[10]⟩) = some (str (w0 ++ joinP (fieldsW ln) ++ [10])) := cat_str (by simp only [List.length_append, List.length_cons, List.length_nil]; omega)
      simp -implicitDefEqProofs only [Option.bind_some, W_some, W_nw, W_nws, W_nwAt, newVal, cnd_true, cnd_false, gdo_tt, gdo_ff, gdo_tf, gdo_ft, gdo_u, ar_lss, ar_leq, ar_gtr, ar_geq, ar_eql, ar_neq, asB_b, un_not, un_notd, max_i, min_i, Bool.not_true, Bool.not_false, decide_true, decide_false, decide_not, reduceIte, if_true, if_false, Bool.false_eq_true, not_true_eq_false, not_false_eq_true, Bool.true_eq_false, h1.tsl.len, hl0, c1, i64_succ (show i < 2 ^ 62 by omega)]
      refine (ih (i + 1) m1 (w0 ++ joinP (fieldsW ln) ++ [10]) (by omega) hT1 (fun b hh => Nat.lt_of_lt_of_le (hb b hh) u1.next) (by simp only [List.length_append, List.length_cons, List.length_nil]; omega)).mono fun r m' hr => ?_
      rw [hr]
      simp [wantL, hnil]

theorem readGo_err : ∀ (ls : List (List UInt8)) (k : Nat) (acc : List In) (k' : Nat) (e : Int), readGo ls k acc = .err k' e → e ≠ 0
  | [], k, acc, k', e, h => by cases h
  | ln :: ls, k, acc, k', e, h => by
    rw [readGo] at h
    split at h
    · exact readGo_err ls _ _ _ _ h
    · rename_i k1 e1 hst
      cases h
      unfold stepP at hst
      split at hst
      · cases hst
      · split at hst
        · cases hst; decide
        · split at hst
          · cases hst; decide
          · cases hst

def smallB : Nat := 1048576
theorem smallB_eq : smallB = 1048576 := rfl
set_option maxRecDepth 100000 in
theorem onlyLaw {s : List UInt8} {m : Mem} (hs : s.length ≤ 1048576) (hg : Globs m) : W (Call S tab 4 [str s] m) fun r m' => r = .bool true := by
  rw [C4]
  refine W.bind (lives_ok hg) fun r m1 ⟨hr, hu1⟩ => ?_
  subst hr
  simp -implicitDefEqProofs only [Option.bind_some, W_some, W_nw, W_nws, W_nwAt, newVal, cnd_true, cnd_false, gdo_tt, gdo_ff, gdo_tf, gdo_ft, gdo_u, ar_lss, ar_leq, ar_gtr, ar_geq, ar_eql, ar_neq, asB_b, un_not, un_notd, max_i, min_i, Bool.not_true, Bool.not_false, decide_true, decide_false, decide_not, reduceIte, if_true, if_false, Bool.false_eq_true, not_true_eq_false, not_false_eq_true, Bool.true_eq_false]
  refine W.bind (read_ok (s := s) hs (hg.upd0 hu1)) fun r m2 ⟨v, hr, hv, hu2, hvb⟩ => ?_
  subst hr
  have hu12 := hu1.then0 hu2
  have e0 : runExtract 0 (.tuple #[v, .int .i64 ((readP s).2.1 : Int), .int .i64 (readP s).2.2]) = some v := rfl
  have e1 : runExtract 1 (.tuple #[v, .int .i64 ((readP s).2.1 : Int), .int .i64 (readP s).2.2]) = some (.int .i64 ((readP s).2.1 : Int)) := rfl
  have e2 : runExtract 2 (.tuple #[v, .int .i64 ((readP s).2.1 : Int), .int .i64 (readP s).2.2]) = some (.int .i64 (readP s).2.2) := rfl
  refine W.bindO e0 (W.bindO e1 (W.bindO e2 ?_))
  have hsp := splitB_len 10 s
  cases hrd : readGo (splitB 10 s) 0 [] with
  | err k e =>
    have hP : readP s = ([], k, e) := by unfold readP; rw [hrd]
    have he := readGo_err _ _ _ _ _ hrd
    rw [hP] at hv ⊢
    simp -implicitDefEqProofs only [Option.bind_some, W_some, W_nw, W_nws, W_nwAt, newVal, cnd_true, cnd_false, gdo_tt, gdo_ff, gdo_tf, gdo_ft, gdo_u, ar_lss, ar_leq, ar_gtr, ar_geq, ar_eql, ar_neq, asB_b, un_not, un_notd, max_i, min_i, Bool.not_true, Bool.not_false, decide_true, decide_false, decide_not, reduceIte, if_true, if_false, Bool.false_eq_true, not_true_eq_false, not_false_eq_true, Bool.true_eq_false, he, hv.tsl.len, List.length_nil]
    rfl
  | more k acc =>
    have hP : readP s = (acc, 0, 0) := by unfold readP; rw [hrd]
    obtain ⟨q1, q2, q3⟩ := read_only _ _ _ _ _ (fun ln hln => Nat.le_trans (hsp.2 ln hln) hs) (by simp) (by simp) hrd
    have hce : codeErr acc = 0 := by
      unfold codeErr
      rw [if_neg (by omega), if_pos (List.all_eq_true.2 fun i hi => (q2 i hi).2)]
    have ht : textP acc = linesP acc := by unfold textP; rw [if_pos hce]
    rw [hP] at hv ⊢
    simp -implicitDefEqProofs only [Option.bind_some, W_some, W_nw, W_nws, W_nwAt, newVal, cnd_true, cnd_false, gdo_tt, gdo_ff, gdo_tf, gdo_ft, gdo_u, ar_lss, ar_leq, ar_gtr, ar_geq, ar_eql, ar_neq, asB_b, un_not, un_notd, max_i, min_i, Bool.not_true, Bool.not_false, decide_true, decide_false, decide_not, reduceIte, if_true, if_false, Bool.false_eq_true, not_true_eq_false, not_false_eq_true, Bool.true_eq_false, not_true_eq_false, decide_false]
    refine W.bind (up (write_ok (L := acc) (fun i hi => (q2 i hi).1) (by omega) hv.tsl hv.lt (hg.upd0 hu12))) fun r m3 ⟨hr, hu3⟩ => ?_
    subst hr
    rw [hce, ht]
    have f0 : runExtract 0 (.tuple #[str (linesP acc), .int .i64 0]) = some (str (linesP acc)) := rfl
    have f1 : runExtract 1 (.tuple #[str (linesP acc), .int .i64 0]) = some (.int .i64 0) := rfl
    simp -implicitDefEqProofs only [Option.bind_some, W_some, W_nw, W_nws, W_nwAt, newVal, cnd_true, cnd_false, gdo_tt, gdo_ff, gdo_tf, gdo_ft, gdo_u, ar_lss, ar_leq, ar_gtr, ar_geq, ar_eql, ar_neq, asB_b, un_not, un_notd, max_i, min_i, Bool.not_true, Bool.not_false, decide_true, decide_false, decide_not, reduceIte, if_true, if_false, Bool.false_eq_true, not_true_eq_false, not_false_eq_true, Bool.true_eq_false, f0, f1]
    refine W.bind (up (rsplit_ok (s := s) 10 (by omega) m3)) fun lv m4 ⟨h4, hu4, _⟩ => ?_
    refine (only_loop (ls := splitB 10 s) (t := linesP acc) (lv := lv) (by omega) (fun x hx => Nat.le_trans (hsp.2 x hx) hs) (splitB 10 s).length 0 m4 [] (by omega) h4.tsl h4.lt (by simp)).mono fun r m5 hr => ?_
    rw [hr, List.drop_zero, q3]
    simp [linesP]
end Go.Fx.Tryd
