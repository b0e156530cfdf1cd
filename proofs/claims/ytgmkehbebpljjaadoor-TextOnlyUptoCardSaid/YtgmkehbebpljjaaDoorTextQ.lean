/- What is written is read again; what is read has just its words: the plain law, told of programs. -/
import Derived.Test.YtgmkehbebpljjaaDoorTextP
namespace Go.Fx.Tryd
open Go Go.Fx
set_option linter.unusedSimpArgs false
set_option linter.unusedVariables false

theorem fit_i64 {x : Int} (h : fitB x = true) : I64 x ∧ 0 ≤ x ∧ x ≤ 255 := by
  simp only [fitB, Bool.and_eq_true, decide_eq_true_eq] at h
  unfold I64
  omega
theorem arg_step {x : Int} (h : fitB x = true) (i : In) (k : Nat) (r : List (List UInt8)) : argsGo i k (Lib.itoa x :: r) = argsGo (i.setA k x) (k + 1) r := by
  obtain ⟨h1, h2, h3⟩ := fit_i64 h
  rw [argsGo, numP_itoa h1, if_pos ⟨rfl, h2, h3⟩]
theorem code_one {i : In} (h : rightB i = true) : codeErr [i] = 0 := by simp [codeErr, h]
theorem right_of {i : In} (h : codeErr [i] = 0) : rightB i = true := by
  unfold codeErr at h
  cases hr : rightB i with
  | true => rfl
  | false => simp [hr] at h

theorem inst_words {i : In} (hi : i.Ok) (h : rightB i = true) : instP (wordsP i) = some i := by
  have ho := rightB_opn h
  obtain ⟨n, hn, hn3⟩ := opn_nat i.op
  have hname := (name_of ho).1
  have hcode := code_one h
  have hfin : finP i = some i := by unfold finP; rw [if_pos hcode]
  have h' := h
  unfold rightB at h'
  simp only [Bool.and_eq_true, argsOk, hn, Bool.or_eq_true, decide_eq_true_eq] at h'
  obtain ⟨⟨_, ⟨fa, za⟩, ⟨fb, zb⟩, ⟨fc, zc⟩, _⟩, htail⟩ := h'
  have hh : (wordsP i).headD [] = nameP i.op := rfl
  have ht : (wordsP i).tail = ([i.a, i.b, i.c].take n).map Lib.itoa ++ (if i.op = 1 then [showP i.v] else []) := by simp [wordsP, hn]
  unfold instP
  rw [hh, hname, ht, hn, Int.toNat_natCast, if_neg (by rw [ho]; simp)]
  obtain ⟨op, a, b, c, k, nn, s⟩ := i
  simp only at *
  unfold tailOk at htail
  by_cases hop : op = 1
  · subst hop
    have h1 : n = 1 := by
      have : (opn 1).1 = 1 := by decide
      omega
    subst h1
    simp only [if_true, Bool.and_eq_true, Bool.not_eq_true', decide_eq_true_eq] at htail
    have hv := value_show (v := ⟨k, nn, s⟩) hi.n htail.1
    obtain rfl : b = 0 := by rcases zb with h | h <;> omega
    obtain rfl : c = 0 := by rcases zc with h | h <;> omega
    have e1 : ([a, 0, 0].take 1).map Lib.itoa ++ (if (1 : Int) = 1 then [showP ⟨k, nn, s⟩] else []) = [Lib.itoa a, showP ⟨k, nn, s⟩] := rfl
    rw [e1, if_pos rfl]
    simp only [List.length_cons, List.length_nil, Nat.zero_add, ne_eq, not_true_eq_false, if_false, List.getElem?_cons_succ, List.getElem?_cons_zero, Option.getD_some, hv, Bool.true_eq_false, List.take_succ_cons, List.take_zero, arg_step fa, argsGo, Option.bind_some, In.setA]
    simpa using hfin
  · rw [if_neg hop]
    simp only [hop, if_false, decide_eq_true_eq, Va.mk.injEq, zeroVa] at htail
    obtain ⟨rfl, rfl, rfl⟩ := htail
    simp only [hop, if_false, List.append_nil, List.length_map, List.length_take, List.length_cons, List.length_nil]
    rw [if_neg (by omega)]
    match n, hn3, za, zb, zc with
    | 0, _, za, zb, zc =>
      obtain rfl : a = 0 := by rcases za with h | h <;> omega
      obtain rfl : b = 0 := by rcases zb with h | h <;> omega
      obtain rfl : c = 0 := by rcases zc with h | h <;> omega
      simpa [argsGo] using hfin
    | 1, _, za, zb, zc =>
      obtain rfl : b = 0 := by rcases zb with h | h <;> omega
      obtain rfl : c = 0 := by rcases zc with h | h <;> omega
      simp only [List.take_succ_cons, List.take_zero, List.map_cons, List.map_nil, arg_step fa, argsGo, Option.bind_some, In.setA]
      simpa using hfin
    | 2, _, za, zb, zc =>
      obtain rfl : c = 0 := by rcases zc with h | h <;> omega
      show (argsGo _ 0 [Lib.itoa a, Lib.itoa b]).bind finP = _
      rw [arg_step fa, arg_step fb]
      simpa [argsGo, In.setA] using hfin
    | 3, _, za, zb, zc =>
      show (argsGo _ 0 [Lib.itoa a, Lib.itoa b, Lib.itoa c]).bind finP = _
      rw [arg_step fa, arg_step fb, arg_step fc]
      simpa [argsGo, In.setA] using hfin

theorem split_lines : ∀ (L : List In), (∀ i ∈ L, rightB i = true) → splitB 10 (linesP L) = L.map lineP ++ [[]]
  | [], _ => rfl
  | i :: L, h => by
    have hi := no10_join (wordsP i) (words_good (h i (by simp)))
    have ih := split_lines L (fun j hj => h j (by simp [hj]))
    have e : linesP (i :: L) = lineP i ++ 10 :: linesP L := by simp [linesP]
    unfold splitB at ih ⊢
    rw [e, splitGo_cut 10 _ (lineP i) [] hi, ih]
    simp
theorem read_lines : ∀ (L : List In) (k : Nat) (acc : List In), (∀ i ∈ L, i.Ok ∧ rightB i = true) → acc.length + L.length ≤ 64 → readGo (L.map lineP ++ [[]]) k acc = .more (k + L.length + 1) (acc ++ L)
  | [], k, acc, _, _ => by
    simp [readGo, stepP, fieldsW, wgo]
  | i :: L, k, acc, h, hl => by
    obtain ⟨h1, h2⟩ := h i (by simp)
    have hf : fieldsW (lineP i) = wordsP i := fields_join _ (words_good h2)
    have hne : wordsP i ≠ [] := by simp [wordsP]
    have h64 : ¬ acc.length = 64 := by simp only [List.length_cons] at hl; omega
    have hst : stepP k acc (lineP i) = .more (k + 1) (acc ++ [i]) := by
      unfold stepP
      rw [hf, if_neg hne, inst_words h1 h2]
      simp only [h64, if_false]
    rw [List.map_cons, List.cons_append, readGo, hst]
    simp only
    rw [read_lines L (k + 1) (acc ++ [i]) (fun j hj => h j (by simp [hj])) (by simp only [List.length_append, List.length_cons, List.length_nil] at hl ⊢; omega)]
    simp only [List.length_cons, List.append_assoc, List.cons_append, List.nil_append]
    congr 1; omega
theorem code_all {L : List In} (h : codeErr L = 0) : L.length ≤ 64 ∧ ∀ i ∈ L, rightB i = true := by
  unfold codeErr at h
  split at h
  · cases h
  · split at h
    · rename_i h1 h2
      exact ⟨by omega, fun i hi => List.all_eq_true.1 h2 i hi⟩
    · cases h
theorem read_back {L : List In} (hok : ∀ i ∈ L, i.Ok) (h : codeErr L = 0) : readP (linesP L) = (L, 0, 0) := by
  obtain ⟨h1, h2⟩ := code_all h
  unfold readP
  rw [split_lines L h2, read_lines L 0 [] (fun i hi => ⟨hok i hi, h2 i hi⟩) (by simpa using h1)]
  simp
theorem line_short {i : In} (hi : i.Ok) (h : rightB i = true) : (lineP i).length ≤ 150 := by
  have h1 := nameP_len i.op
  have h2 : ∀ x ∈ [i.a, i.b, i.c].take (opn i.op).1.toNat, I64 x := fun x hx => by
    have := List.mem_of_mem_take hx
    simp only [List.mem_cons, List.not_mem_nil, or_false] at this
    rcases this with rfl | rfl | rfl
    · exact hi.a
    · exact hi.b
    · exact hi.c
  have h3 := total_map h2
  have h4 : ([i.a, i.b, i.c].take (opn i.op).1.toNat).length ≤ 3 := by simp; omega
  have h6 : total (if i.op = 1 then [showP i.v] else []) ≤ 21 ∧ (if i.op = 1 then [showP i.v] else []).length ≤ 1 := by
    split
    · rename_i hop
      have hs : i.s.length ≤ 10 := by
        unfold rightB tailOk at h
        simp only [hop, if_true, Bool.and_eq_true, decide_eq_true_eq] at h
        exact h.2.2
      have : (showP i.v).length ≤ 21 := by
        unfold showP
        split
        · exact itoa_len hi.n
        · simp only [List.length_cons, hexP_length]; omega
      simpa [total] using this
    · simp [total]
  unfold lineP wordsP
  simp only [List.cons_append, joinP, List.length_append, sepP_len, total_append, List.length_map]
  omega
theorem lines_short : ∀ {L : List In}, (∀ i ∈ L, i.Ok ∧ rightB i = true) → (linesP L).length ≤ L.length * 151
  | [], _ => by simp [linesP]
  | i :: L, h => by
    obtain ⟨h1, h2⟩ := h i (by simp)
    have := line_short h1 h2
    have ih := lines_short (L := L) (fun j hj => h j (by simp [hj]))
    have e : linesP (i :: L) = lineP i ++ 10 :: linesP L := by simp [linesP]
    rw [e]
    simp only [List.length_append, List.length_cons]
    omega

/- what is read has just its words -/
theorem num_back {s : List UInt8} (h : (numP s).2 = true ∧ 0 ≤ (numP s).1 ∧ (numP s).1 ≤ 255) : Lib.itoa (numP s).1 = s := numP_back h.1
theorem args_back (i j : In) : ∀ (ss : List (List UInt8)), ss.length ≤ 3 → argsGo i 0 ss = some j → j.op = i.op ∧ j.v = i.v ∧ ([j.a, j.b, j.c].take ss.length).map Lib.itoa = ss ∧ (i.Ok → j.Ok) := by
  intro ss hl h
  match ss, hl, h with
  | [], _, h => simp only [argsGo, Option.some.injEq] at h; subst h; exact ⟨rfl, rfl, rfl, id⟩
  | [s], _, h =>
    simp only [argsGo] at h
    split at h
    · rename_i h1
      simp only [Option.some.injEq] at h; subst h
      exact ⟨rfl, rfl, by simp [In.setA, num_back h1], fun h => setA_ok h 0 (numP_i64 _)⟩
    · cases h
  | [s, t], _, h =>
    simp only [argsGo] at h
    split at h
    · rename_i h1
      split at h
      · rename_i h2
        simp only [Option.some.injEq] at h; subst h
        exact ⟨rfl, rfl, by simp [In.setA, num_back h1, num_back h2], fun h => setA_ok (setA_ok h 0 (numP_i64 _)) 1 (numP_i64 _)⟩
      · cases h
    · cases h
  | [s, t, w], _, h =>
    simp only [argsGo] at h
    split at h
    · rename_i h1
      split at h
      · rename_i h2
        split at h
        · rename_i h3
          simp only [Option.some.injEq] at h; subst h
          exact ⟨rfl, rfl, by simp [In.setA, num_back h1, num_back h2, num_back h3], fun h => setA_ok (setA_ok (setA_ok h 0 (numP_i64 _)) 1 (numP_i64 _)) 2 (numP_i64 _)⟩
        · cases h
      · cases h
    · cases h
theorem fin_back {o : Option In} {i : In} (h : o.bind finP = some i) : o = some i ∧ rightB i = true := by
  cases o with
  | none => cases h
  | some j =>
    simp only [Option.bind_some, finP] at h
    split at h
    · rename_i hc
      cases h
      exact ⟨rfl, right_of hc⟩
    · cases h

theorem words_inst {w : List (List UInt8)} {i : In} (hne : w ≠ []) (hw : ∀ s ∈ w, s.length ≤ 1048576) (h : instP w = some i) : wordsP i = w ∧ rightB i = true ∧ i.Ok := by
  match w, hne with
  | w0 :: ss, _ =>
    unfold instP at h
    obtain ⟨op, hopeq⟩ : ∃ op, op = idxP ((w0 :: ss).headD []) := ⟨_, rfl⟩
    obtain ⟨tl, htl⟩ : ∃ tl, tl = (w0 :: ss).tail := ⟨_, rfl⟩
    rw [← hopeq, ← htl] at h
    have hop0 : op = idxP w0 := hopeq
    have htl0 : tl = ss := htl
    have hw : ∀ s ∈ tl, s.length ≤ 1048576 := fun s hs => hw s (List.mem_cons_of_mem _ (htl0 ▸ hs))
    clear hopeq htl
    by_cases ho : (opn op).2 = false
    · rw [if_pos ho] at h; cases h
    · rw [if_neg ho] at h
      have ho : (opn op).2 = true := by simpa using ho
      have hname : nameP op = w0 := by rw [hop0] at ho ⊢; exact idx_name ho
      obtain ⟨n, hn, hn3⟩ := opn_nat op
      rw [hn, Int.toNat_natCast] at h
      by_cases hop : op = 1
      · rw [if_pos hop] at h
        by_cases hl : tl.length = n + 1
        · rw [if_neg (by simp [hl])] at h
          have hg : tl[n]? = some (tl[n]'(by omega)) := List.getElem?_eq_getElem (by omega)
          have hsl := hw (tl[n]'(by omega)) (List.getElem_mem _)
          have hsplit : tl = tl.take n ++ [tl[n]'(by omega)] := by
            have := List.take_append_drop n tl
            rw [List.drop_eq_getElem_cons (show n < tl.length by omega), List.drop_eq_nil_of_le (show tl.length ≤ n + 1 by omega)] at this
            exact this.symm
          rw [hg] at h
          generalize tl[n]'(by omega) = x at h hsl hsplit
          simp only [Option.getD_some] at h
          by_cases hv : (valueP x).2 = false
          · rw [if_pos hv] at h; cases h
          · rw [if_neg hv] at h
            have hv : (valueP x).2 = true := by simpa using hv
            obtain ⟨h1, h2⟩ := fin_back h
            obtain ⟨a1, a2, a3, a4⟩ := args_back _ i (tl.take n) (by rw [List.length_take]; omega) h1
            simp only at a1
            have hlt : (tl.take n).length = n := by rw [List.length_take]; omega
            rw [hlt] at a3
            obtain ⟨v1, v2, v3⟩ := valueP_ok x
            refine ⟨?_, h2, a4 ⟨hop0 ▸ idxP_i64 _, z0, z0, z0, v1, v2, Nat.le_trans (Nat.le_trans v3 hsl) (by decide)⟩⟩
            have hsv : showP i.v = x := by rw [a2]; exact show_value hv
            unfold wordsP
            rw [a1, hname, hn, Int.toNat_natCast, a3, if_pos hop, hsv]
            rw [← htl0]
            conv => rhs; rw [hsplit]
            simp
        · rw [if_pos hl] at h; cases h
      · rw [if_neg hop] at h
        by_cases hl : tl.length = n
        · rw [if_neg (by simp [hl])] at h
          obtain ⟨h1, h2⟩ := fin_back h
          obtain ⟨a1, a2, a3, a4⟩ := args_back _ i tl (by omega) h1
          simp only at a1
          rw [hl] at a3
          refine ⟨?_, h2, a4 ⟨hop0 ▸ idxP_i64 _, z0, z0, z0, z0, z0, by simp⟩⟩
          unfold wordsP
          rw [a1, hname, hn, Int.toNat_natCast, a3, if_neg hop, htl0]
          simp
        · rw [if_pos hl] at h; cases h

/-- A line as it's written again. -/
def wantL (ln : List UInt8) : List UInt8 := if fieldsW ln = [] then [] else joinP (fieldsW ln) ++ [10]
theorem read_only : ∀ (ls : List (List UInt8)) (k : Nat) (acc : List In) (k' : Nat) (acc' : List In), (∀ ln ∈ ls, ln.length ≤ 1048576) → acc.length ≤ 64 → (∀ i ∈ acc, i.Ok ∧ rightB i = true) → readGo ls k acc = .more k' acc' →
    acc'.length ≤ 64 ∧ (∀ i ∈ acc', i.Ok ∧ rightB i = true) ∧ linesP acc' = linesP acc ++ ls.flatMap wantL
  | [], k, acc, k', acc', _, hl, hok, h => by
    simp only [readGo, Stp.more.injEq] at h
    obtain ⟨rfl, rfl⟩ := h
    exact ⟨hl, hok, by simp⟩
  | ln :: ls, k, acc, k', acc', hln, hl, hok, h => by
    rw [readGo] at h
    split at h
    · rename_i k1 acc1 hst
      have hst' := hst
      obtain ⟨rfl, hl1⟩ := stepP_more hst hl
      unfold stepP at hst'
      split at hst'
      · rename_i hf
        simp only [Stp.more.injEq] at hst'
        obtain ⟨_, rfl⟩ := hst'
        obtain ⟨q1, q2, q3⟩ := read_only ls _ _ k' acc' (fun x hx => hln x (by simp [hx])) hl hok h
        exact ⟨q1, q2, by rw [q3]; simp [wantL, hf]⟩
      · rename_i hf
        split at hst'
        · cases hst'
        · rename_i i hi
          split at hst'
          · cases hst'
          · simp only [Stp.more.injEq] at hst'
            obtain ⟨_, rfl⟩ := hst'
            obtain ⟨w1, w2, w3⟩ := words_inst hf (fun s hs => Nat.le_trans ((fieldsW_len ln).2 s hs) (hln ln (by simp))) hi
            obtain ⟨q1, q2, q3⟩ := read_only ls _ _ k' acc' (fun x hx => hln x (by simp [hx])) hl1 (fun j hj => by
              rcases List.mem_append.1 hj with hj | hj
              · exact hok j hj
              · simp at hj; subst hj; exact ⟨w3, w2⟩) h
            refine ⟨q1, q2, ?_⟩
            rw [q3]
            have : lineP i = joinP (fieldsW ln) := by unfold lineP; rw [w1]
            simp [linesP, wantL, hf, this]
    · cases h
theorem splitGo_len (c : UInt8) : ∀ (l cur : List UInt8), (splitGo c cur l).length ≤ l.length + 1 ∧ ∀ x ∈ splitGo c cur l, x.length ≤ cur.length + l.length
  | [], cur => by simp [splitGo]
  | x :: r, cur => by
    unfold splitGo
    split
    · have := splitGo_len c r []
      refine ⟨by simp; omega, fun y hy => ?_⟩
      rcases List.mem_cons.1 hy with rfl | hy
      · omega
      · have := this.2 y hy; simp at this ⊢; omega
    · have := splitGo_len c r (cur ++ [x])
      refine ⟨by simp at this ⊢; omega, fun y hy => ?_⟩
      have := this.2 y hy
      simp at this ⊢; omega
theorem splitB_len (c : UInt8) (l : List UInt8) : (splitB c l).length ≤ l.length + 1 ∧ ∀ x ∈ splitB c l, x.length ≤ l.length := by
  have := splitGo_len c l []
  simpa [splitB] using this
/-- The words, by what lies between blanks. -/
theorem fields_split : ∀ (l cur : List UInt8), wgo cur l = (splitGo 32 cur l).filter (fun x => decide (x ≠ []))
  | [], cur => by
    unfold wgo splitGo
    by_cases h : cur = []
    · simp [h]
    · simp [h]
  | c :: r, cur => by
    unfold wgo splitGo
    split
    · by_cases h : cur = []
      · simp [h, fields_split r []]
      · simp [h, fields_split r []]
    · exact fields_split r (cur ++ [c])
end Go.Fx.Tryd
