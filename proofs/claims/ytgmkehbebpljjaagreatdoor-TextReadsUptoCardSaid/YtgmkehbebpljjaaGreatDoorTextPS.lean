/- What is written is read again; what is read has just its words: the plain law. -/
import Derived.Test.YtgmkehbebpljjaaGreatDoorTextO
namespace Go.Fx.Tryz
open Go Go.Fx
set_option linter.unusedSimpArgs false
set_option linter.unusedVariables false

/- digits -/
theorem dig_nat {d : Nat} (h : d < 10) : (UInt8.ofNat (48 + d)).toNat = 48 + d := by
  simp
  omega
theorem dd_dig : ∀ (u : Nat), ∀ c ∈ Lib.decDigits u, 48 ≤ c.toNat ∧ c.toNat ≤ 57 := by
  intro u
  induction u using Nat.strongRecOn with
  | _ u ih =>
    intro c hc
    by_cases h : u < 10
    · rw [Lib.decDigits, dif_pos h] at hc
      simp only [List.mem_cons, List.not_mem_nil, or_false] at hc
      subst hc
      rw [dig_nat h]; omega
    · rw [Lib.decDigits, dif_neg h] at hc
      rcases List.mem_append.1 hc with hc | hc
      · exact ih (u / 10) (by omega) c hc
      · simp only [List.mem_cons, List.not_mem_nil, or_false] at hc
        subst hc
        rw [dig_nat (show u % 10 < 10 by omega)]; omega
theorem dd_ne (u : Nat) : Lib.decDigits u ≠ [] := by
  intro h
  have := Lib.decDigits_length u
  rw [h] at this
  have := Lib.nDigits_pos u
  simp at *
  omega
theorem pu_append (M : Nat) (r : List UInt8) : ∀ (l : List UInt8) (acc : Nat), Lib.parseUintM M acc (l ++ r) = match Lib.parseUintM M acc l with
    | .ok a => Lib.parseUintM M a r
    | e => e
  | [], acc => by simp [Lib.parseUintM]
  | c :: l, acc => by
    rw [List.cons_append, Lib.parseUintM, Lib.parseUintM]
    split
    · split
      · rfl
      · split
        · rfl
        · exact pu_append M r l _
    · rfl
theorem pu_dd : ∀ (u : Nat), u ≤ 18446744073709551615 → Lib.parseUintM 18446744073709551615 0 (Lib.decDigits u) = .ok u := by
  intro u
  induction u using Nat.strongRecOn with
  | _ u ih =>
    intro hu
    have one : ∀ (a d : Nat), d < 10 → a ≤ 1844674407370955161 → a * 10 + d ≤ 18446744073709551615 → Lib.parseUintM 18446744073709551615 a [UInt8.ofNat (48 + d)] = .ok (a * 10 + d) := by
      intro a d hd ha hs
      rw [Lib.parseUintM, dig_nat hd, if_pos (by omega), if_neg (by omega), if_neg (by omega), Lib.parseUintM]
      congr 1; omega
    by_cases h : u < 10
    · rw [Lib.decDigits, dif_pos h, one 0 u h (by omega) (by omega)]
      simp
    · rw [Lib.decDigits, dif_neg h, pu_append, ih (u / 10) (by omega) (by omega)]
      simp only
      rw [one (u / 10) (u % 10) (by omega) (by omega) (by omega)]
      congr 1; omega
theorem pi_itoa {n : Int} (h : I64 n) : Lib.parseIntB 64 (Lib.itoa n) = .ok n := by
  have h1 := h.1
  have h2 := h.2
  have hM : 2 ^ 64 - 1 = 18446744073709551615 := by decide
  have pb : ∀ u : Nat, u ≤ 18446744073709551615 → Lib.parseUintB 64 (Lib.decDigits u) = .ok u := by
    intro u hu
    rw [Lib.parseUintB, if_neg (dd_ne u), hM, pu_dd u hu]
  unfold Lib.itoa
  split
  · rename_i hn
    unfold Lib.parseIntB
    have h45 : (45 : UInt8).toNat = 45 := rfl
    simp only [h45, or_true, if_true, pb n.natAbs (by omega)]
    rw [if_neg (by simp), if_neg (by simp; omega)]
    congr 1; omega
  · rename_i hn
    cases hd : Lib.decDigits n.toNat with
    | nil => exact absurd hd (dd_ne _)
    | cons c r =>
      have hc := dd_dig n.toNat c (by rw [hd]; simp)
      have e := pb n.toNat (by omega)
      rw [hd] at e
      unfold Lib.parseIntB
      have c1 : ¬ (c.toNat = 43) := by omega
      have c2 : ¬ (c.toNat = 45) := by omega
      have e63 : (2 : Nat) ^ (64 - 1) = 9223372036854775808 := by decide
      simp only [c1, c2, or_self, if_false, e, not_false_eq_true, true_and, false_and, e63]
      rw [if_neg (show ¬ 9223372036854775808 ≤ n.toNat by omega)]
      congr 1
      exact Int.toNat_of_nonneg (by omega)
theorem numP_itoa {n : Int} (h : I64 n) : numP (Lib.itoa n) = (n, true) := by
  unfold numP
  rw [pi_itoa h]
  simp
theorem numP_back {s : List UInt8} (h : (numP s).2 = true) : Lib.itoa (numP s).1 = s := by
  unfold numP at h ⊢
  split at h
  · rename_i v hv
    simpa using h
  · simp at h
  · simp at h

/- words of lines -/
def goodW (w : List UInt8) : Prop := w ≠ [] ∧ ∀ c ∈ w, c ≠ 10 ∧ c ≠ 32
theorem wgo_sep : ∀ (w : List UInt8) (cur r : List UInt8), (∀ c ∈ w, c ≠ 32) → cur ++ w ≠ [] → wgo cur (w ++ 32 :: r) = (cur ++ w) :: wgo [] r := by
  intro w cur r h hne
  rw [wgo_run w cur (32 :: r) h, wgo, if_pos rfl, if_neg hne]
theorem wgo_last (w cur : List UInt8) (h : ∀ c ∈ w, c ≠ 32) (hne : cur ++ w ≠ []) : wgo cur w = [cur ++ w] := by
  have := wgo_run w cur [] h
  rw [List.append_nil] at this
  rw [this, wgo, if_neg hne]
theorem fields_join : ∀ (ws : List (List UInt8)), (∀ w ∈ ws, goodW w) → fieldsW (joinP ws) = ws
  | [], _ => rfl
  | [w], h => by
    have hw := h w (by simp)
    simp only [joinP, sepP, List.flatMap_nil, List.append_nil]
    exact (wgo_last w [] (fun c hc => (hw.2 c hc).2) (by simpa using hw.1)).trans (by simp)
  | w :: x :: r, h => by
    have hw := h w (by simp)
    have ih := fields_join (x :: r) (fun y hy => h y (by simp [hy]))
    have e : joinP (w :: x :: r) = w ++ 32 :: joinP (x :: r) := by simp [joinP, sepP]
    rw [e]
    unfold fieldsW at ih ⊢
    rw [wgo_sep w [] _ (fun c hc => (hw.2 c hc).2) (by simpa using hw.1), ih]
    simp
theorem no10_join : ∀ (ws : List (List UInt8)), (∀ w ∈ ws, goodW w) → (10 : UInt8) ∉ joinP ws
  | [], _ => by simp [joinP]
  | w :: r, h => by
    intro hm
    simp only [joinP, sepP, List.mem_append, List.mem_flatMap, List.mem_cons] at hm
    rcases hm with hm | ⟨x, hx, hm | hm⟩
    · exact ((h w (by simp)).2 10 hm).1 rfl
    · exact absurd hm (by decide)
    · exact ((h x (by simp [hx])).2 10 hm).1 rfl

theorem itoa_good (n : Int) : goodW (Lib.itoa n) := by
  have key : ∀ u : Nat, ∀ c ∈ Lib.decDigits u, c ≠ 10 ∧ c ≠ 32 := fun u c hc => by
    have := dd_dig u c hc
    exact ⟨fun e => by subst e; simp at this, fun e => by subst e; simp at this⟩
  unfold Lib.itoa goodW
  split
  · refine ⟨by simp, fun c hc => ?_⟩
    rcases List.mem_cons.1 hc with rfl | hc
    · decide
    · exact key _ c hc
  · exact ⟨dd_ne _, key _⟩
theorem itoa_head (n : Int) : (cutP (Lib.itoa n)).2 = false := by
  have key : ∀ (c : UInt8) (r : List UInt8), c ≠ 39 → (cutP (c :: r)).2 = false := fun c r h => by rw [cutP_cons, if_neg h]
  unfold Lib.itoa
  split
  · exact key _ _ (by decide)
  · cases hd : Lib.decDigits n.toNat with
    | nil => exact absurd hd (dd_ne _)
    | cons c r =>
      have := dd_dig n.toNat c (by rw [hd]; simp)
      exact key _ _ (fun e => by subst e; simp at this)
theorem hexd_good : ∀ k : Fin 16, hexd k.val ≠ 10 ∧ hexd k.val ≠ 32 ∧ hexi (hexd k.val) = (k.val : Int) := by decide +kernel
theorem hexd_of {k : Nat} (h : k < 16) : hexd k ≠ 10 ∧ hexd k ≠ 32 ∧ hexi (hexd k) = (k : Int) := hexd_good ⟨k, h⟩
theorem hexi_back : ∀ c : Fin 256, 0 ≤ hexi (UInt8.ofNat c.val) → hexd (hexi (UInt8.ofNat c.val)).toNat = UInt8.ofNat c.val := by decide +kernel
theorem hexi_of {c : UInt8} (h : 0 ≤ hexi c) : hexd (hexi c).toNat = c := by
  have := hexi_back ⟨c.toNat, c.toNat_lt⟩
  simpa [h] using this
theorem hexP_ok : ∀ s : List UInt8, ∀ c ∈ hexP s, c ≠ 10 ∧ c ≠ 32
  | [], c, h => by simp [hexP] at h
  | x :: s, c, h => by
    have hx : x.toNat < 256 := x.toNat_lt
    simp only [hexP, List.mem_cons] at h
    rcases h with rfl | rfl | h
    · have := hexd_of (show x.toNat / 16 < 16 by omega); exact ⟨this.1, this.2.1⟩
    · have := hexd_of (show x.toNat % 16 < 16 by omega); exact ⟨this.1, this.2.1⟩
    · exact hexP_ok s c h
theorem unhex_hex : ∀ s : List UInt8, unhexP (hexP s) = some (s, [])
  | [] => rfl
  | x :: s => by
    have hx : x.toNat < 256 := x.toNat_lt
    have h1 := (hexd_of (show x.toNat / 16 < 16 by omega)).2.2
    have h2 := (hexd_of (show x.toNat % 16 < 16 by omega)).2.2
    rw [hexP, unhexP, h1, h2, if_neg (by omega), unhex_hex s]
    simp only [Option.map_some, Int.toNat_natCast]
    have : 16 * (x.toNat / 16) + x.toNat % 16 = x.toNat := by omega
    rw [this]
    simp
theorem hex_unhex : ∀ (d : Nat) (h : List UInt8) (b : List UInt8), h.length ≤ d → unhexP h = some (b, []) → hexP b = h := by
  intro d
  induction d with
  | zero => intro h b hd e; obtain rfl : h = [] := List.length_eq_zero_iff.1 (by omega); simp [unhexP] at e; subst e; rfl
  | succ d ih =>
    intro h b hd e
    match h, hd, e with
    | [], _, e => simp [unhexP] at e; subst e; rfl
    | [a], _, e => simp [unhexP] at e
    | x :: y :: r, hd, e =>
      rw [unhexP] at e
      split at e
      · cases e
      · rename_i hn
        simp only [Option.map_eq_some_iff, Prod.mk.injEq] at e
        obtain ⟨⟨p1, p2⟩, hp, rfl, rfl⟩ := e
        have hx := hexi_bounds x
        have hy := hexi_bounds y
        have e1 : (UInt8.ofNat (16 * (hexi x).toNat + (hexi y).toNat)).toNat = 16 * (hexi x).toNat + (hexi y).toNat := by
          simp; omega
        have d1 : (16 * (hexi x).toNat + (hexi y).toNat) / 16 = (hexi x).toNat := by omega
        have d2 : (16 * (hexi x).toNat + (hexi y).toNat) % 16 = (hexi y).toNat := by omega
        rw [hexP, e1, d1, d2, hexi_of (by omega), hexi_of (by omega), ih r p1 (by simp only [List.length_cons] at hd; omega) hp]
theorem show_good (v : Va) : goodW (showP v) := by
  unfold showP
  split
  · exact itoa_good _
  · refine ⟨by simp, fun c hc => ?_⟩
    rcases List.mem_cons.1 hc with rfl | hc
    · decide
    · exact hexP_ok _ c hc
theorem value_show {v : Va} (hn : I64 v.n) (hodd : oddV v = false) : valueP (showP v) = (v, true) := by
  obtain ⟨k, n, s⟩ := v
  unfold oddV at hodd
  by_cases h1 : k = 1
  · subst h1
    have hs : s = [] := by simpa using hodd
    subst hs
    have e : showP ⟨1, n, []⟩ = Lib.itoa n := rfl
    rw [e, valueP, itoa_head, if_neg (by decide), numP_itoa hn]
  · by_cases h2 : k = 2
    · subst h2
      have hz : n = 0 := by simpa using hodd
      subst hz
      have e : showP ⟨2, 0, s⟩ = 39 :: hexP s := rfl
      have c : cutP (39 :: hexP s) = (hexP s, true) := rfl
      rw [e, valueP, c, if_pos rfl]
      simp only [unhex_hex]
      simp
    · simp [h1, h2] at hodd
theorem show_value {s : List UInt8} (h : (valueP s).2 = true) : showP (valueP s).1 = s := by
  unfold valueP at h ⊢
  by_cases hc : (cutP s).2 = true
  · rw [if_pos hc] at h ⊢
    cases hu : unhexP (cutP s).1 with
    | none => rw [hu] at h; simp at h
    | some p =>
      obtain ⟨b, l⟩ := p
      rw [hu] at h
      simp only [decide_eq_true_eq] at h
      subst h
      have hh := hex_unhex _ _ _ (Nat.le_refl _) hu
      have hs : s = 39 :: (cutP s).1 := by
        cases s with
        | nil => simp [cutP] at hc
        | cons c r =>
          rw [cutP_cons] at hc ⊢
          split at hc
          · rename_i e; rw [if_pos e]; simp [e]
          · cases hc
      show 39 :: hexP b = s
      rw [hh]; exact hs.symm
  · rw [if_neg hc] at h ⊢
    exact numP_back h

/- names -/
theorem name_idx : ∀ k : Fin 20, k.val ≠ 0 → idxP (nameP (k.val : Int)) = (k.val : Int) ∧ nameP (k.val : Int) ≠ [] ∧ ∀ c ∈ nameP (k.val : Int), c ≠ 10 ∧ c ≠ 32 := by decide +kernel
theorem opn_range {op : Int} (h : (opn op).2 = true) : 0 < op ∧ op ≤ 19 := by
  unfold opn at h
  split at h
  · cases h
  · omega
theorem name_of {op : Int} (h : (opn op).2 = true) : idxP (nameP op) = op ∧ goodW (nameP op) := by
  obtain ⟨h1, h2⟩ := opn_range h
  obtain ⟨k, rfl⟩ := Int.eq_ofNat_of_zero_le (Int.le_of_lt h1)
  have := name_idx ⟨k, by omega⟩ (by simp; omega)
  exact ⟨this.1, this.2⟩
theorem idx_name {x : List UInt8} (h : (opn (idxP x)).2 = true) : nameP (idxP x) = x := by
  have key : ∀ (l : List (List UInt8)) (i : Nat), (∀ j, l[j]? = opNames[i + j]?) → 0 ≤ idxGo x i l → nameP (idxGo x i l) = x := by
    intro l
    induction l with
    | nil => intro i _ h; simp [idxGo] at h
    | cons y r ih =>
      intro i hl h
      simp only [idxGo] at h ⊢
      split at h
      · rename_i e
        rw [if_pos e]
        subst e
        have h0 := hl 0
        simp only [List.getElem?_cons_zero, Nat.add_zero] at h0
        have hi : i < 20 := by
          rcases Nat.lt_or_ge i 20 with h | h
          · exact h
          · rw [List.getElem?_eq_none (show opNames.length ≤ i from h)] at h0; cases h0
        unfold nameP
        rw [if_neg (by omega), Int.toNat_natCast, ← h0]
        rfl
      · rename_i e
        rw [if_neg e]
        exact ih (i + 1) (fun j => by
          have := hl (j + 1)
          simp only [List.getElem?_cons_succ] at this
          rw [this]; congr 1; omega) h
  exact key opNames 0 (fun j => by simp) (Int.le_of_lt (opn_range h).1)

theorem words_good {i : In} (h : rightB i = true) : ∀ w ∈ wordsP i, goodW w := by
  have hn := (name_of (rightB_opn h)).2
  intro w hw
  simp only [wordsP, List.cons_append, List.mem_cons, List.mem_append, List.mem_map] at hw
  rcases hw with rfl | ⟨x, _, rfl⟩ | hw
  · exact hn
  · exact itoa_good x
  · split at hw
    · simp at hw; subst hw; exact show_good _
    · simp at hw
end Go.Fx.Tryz
/- What is written is read again; what is read has just its words: the plain law, told of programs. -/
namespace Go.Fx.Tryz
open Go Go.Fx
set_option linter.unusedSimpArgs false
set_option linter.unusedVariables false

theorem fit_i64 {x : Int} (h : fitB x = true) : I64 x ∧ 0 ≤ x ∧ x ≤ 255 := by
  simp only [fitB, Bool.and_eq_true, decide_eq_true_eq] at h
  unfold I64
  omega
theorem arg_step {x : Int} (h : fitB x = true) (i : In) (k : Nat) (r : List (List UInt8)) : argsGo i k (Lib.itoa x :: r) = argsGo (i.setA k x) (k + 1) r := by
  obtain ⟨h1, h2, h3⟩ := fit_i64 h
  rw [argsGo, numP_itoa h1, if_pos ⟨rfl, h2, h3⟩]
theorem code_one {i : In} (h : rightB i = true) : codeErr [i] = 0 := by simp [codeErr, h]
theorem right_of {i : In} (h : codeErr [i] = 0) : rightB i = true := by
  unfold codeErr at h
  cases hr : rightB i with
  | true => rfl
  | false => simp [hr] at h

theorem inst_words {i : In} (hi : i.Ok) (h : rightB i = true) : instP (wordsP i) = some i := by
  have ho := rightB_opn h
  obtain ⟨n, hn, hn3⟩ := opn_nat i.op
  have hname := (name_of ho).1
  have hcode := code_one h
  have hfin : finP i = some i := by unfold finP; rw [if_pos hcode]
  have h' := h
  unfold rightB at h'
  simp only [Bool.and_eq_true, argsOk, hn, Bool.or_eq_true, decide_eq_true_eq] at h'
  obtain ⟨⟨_, ⟨fa, za⟩, ⟨fb, zb⟩, ⟨fc, zc⟩, _⟩, htail⟩ := h'
  have hh : (wordsP i).headD [] = nameP i.op := rfl
  have ht : (wordsP i).tail = ([i.a, i.b, i.c].take n).map Lib.itoa ++ (if i.op = 1 then [showP i.v] else []) := by simp [wordsP, hn]
  unfold instP
  rw [hh, hname, ht, hn, Int.toNat_natCast, if_neg (by rw [ho]; simp)]
  obtain ⟨op, a, b, c, k, nn, s⟩ := i
  simp only at *
  unfold tailOk at htail
  by_cases hop : op = 1
  · subst hop
    have h1 : n = 1 := by
      have : (opn 1).1 = 1 := by decide
      omega
    subst h1
    simp only [if_true, Bool.and_eq_true, Bool.not_eq_true', decide_eq_true_eq] at htail
    have hv := value_show (v := ⟨k, nn, s⟩) hi.n htail.1
    obtain rfl : b = 0 := by rcases zb with h | h <;> omega
    obtain rfl : c = 0 := by rcases zc with h | h <;> omega
    have e1 : ([a, 0, 0].take 1).map Lib.itoa ++ (if (1 : Int) = 1 then [showP ⟨k, nn, s⟩] else []) = [Lib.itoa a, showP ⟨k, nn, s⟩] := rfl
    rw [e1, if_pos rfl]
    simp only [List.length_cons, List.length_nil, Nat.zero_add, ne_eq, not_true_eq_false, if_false, List.getElem?_cons_succ, List.getElem?_cons_zero, Option.getD_some, hv, Bool.true_eq_false, List.take_succ_cons, List.take_zero, arg_step fa, argsGo, Option.bind_some, In.setA]
    simpa using hfin
  · rw [if_neg hop]
    simp only [hop, if_false, decide_eq_true_eq, Va.mk.injEq, zeroVa] at htail
    obtain ⟨rfl, rfl, rfl⟩ := htail
    simp only [hop, if_false, List.append_nil, List.length_map, List.length_take, List.length_cons, List.length_nil]
    rw [if_neg (by omega)]
    match n, hn3, za, zb, zc with
    | 0, _, za, zb, zc =>
      obtain rfl : a = 0 := by rcases za with h | h <;> omega
      obtain rfl : b = 0 := by rcases zb with h | h <;> omega
      obtain rfl : c = 0 := by rcases zc with h | h <;> omega
      simpa [argsGo] using hfin
    | 1, _, za, zb, zc =>
      obtain rfl : b = 0 := by rcases zb with h | h <;> omega
      obtain rfl : c = 0 := by rcases zc with h | h <;> omega
      simp only [List.take_succ_cons, List.take_zero, List.map_cons, List.map_nil, arg_step fa, argsGo, Option.bind_some, In.setA]
      simpa using hfin
    | 2, _, za, zb, zc =>
      obtain rfl : c = 0 := by rcases zc with h | h <;> omega
      show (argsGo _ 0 [Lib.itoa a, Lib.itoa b]).bind finP = _
      rw [arg_step fa, arg_step fb]
      simpa [argsGo, In.setA] using hfin
    | 3, _, za, zb, zc =>
      show (argsGo _ 0 [Lib.itoa a, Lib.itoa b, Lib.itoa c]).bind finP = _
      rw [arg_step fa, arg_step fb, arg_step fc]
      simpa [argsGo, In.setA] using hfin

theorem split_lines : ∀ (L : List In), (∀ i ∈ L, rightB i = true) → splitB 10 (linesP L) = L.map lineP ++ [[]]
  | [], _ => rfl
  | i :: L, h => by
    have hi := no10_join (wordsP i) (words_good (h i (by simp)))
    have ih := split_lines L (fun j hj => h j (by simp [hj]))
    have e : linesP (i :: L) = lineP i ++ 10 :: linesP L := by simp [linesP]
    unfold splitB at ih ⊢
    rw [e, splitGo_cut 10 _ (lineP i) [] hi, ih]
    simp
theorem read_lines : ∀ (L : List In) (k : Nat) (acc : List In), (∀ i ∈ L, i.Ok ∧ rightB i = true) → acc.length + L.length ≤ 64 → readGo (L.map lineP ++ [[]]) k acc = .more (k + L.length + 1) (acc ++ L)
  | [], k, acc, _, _ => by
    simp [readGo, stepP, fieldsW, wgo]
  | i :: L, k, acc, h, hl => by
    obtain ⟨h1, h2⟩ := h i (by simp)
    have hf : fieldsW (lineP i) = wordsP i := fields_join _ (words_good h2)
    have hne : wordsP i ≠ [] := by simp [wordsP]
    have h64 : ¬ acc.length = 64 := by simp only [List.length_cons] at hl; omega
    have hst : stepP k acc (lineP i) = .more (k + 1) (acc ++ [i]) := by
      unfold stepP
      rw [hf, if_neg hne, inst_words h1 h2]
      simp only [h64, if_false]
    rw [List.map_cons, List.cons_append, readGo, hst]
    simp only
    rw [read_lines L (k + 1) (acc ++ [i]) (fun j hj => h j (by simp [hj])) (by simp only [List.length_append, List.length_cons, List.length_nil] at hl ⊢; omega)]
    simp only [List.length_cons, List.append_assoc, List.cons_append, List.nil_append]
    congr 1; omega
theorem code_all {L : List In} (h : codeErr L = 0) : L.length ≤ 64 ∧ ∀ i ∈ L, rightB i = true := by
  unfold codeErr at h
  split at h
  · cases h
  · split at h
    · rename_i h1 h2
      exact ⟨by omega, fun i hi => List.all_eq_true.1 h2 i hi⟩
    · cases h
theorem read_back {L : List In} (hok : ∀ i ∈ L, i.Ok) (h : codeErr L = 0) : readP (linesP L) = (L, 0, 0) := by
  obtain ⟨h1, h2⟩ := code_all h
  unfold readP
  rw [split_lines L h2, read_lines L 0 [] (fun i hi => ⟨hok i hi, h2 i hi⟩) (by simpa using h1)]
  simp
theorem line_short {i : In} (hi : i.Ok) (h : rightB i = true) : (lineP i).length ≤ 150 := by
  have h1 := nameP_len i.op
  have h2 : ∀ x ∈ [i.a, i.b, i.c].take (opn i.op).1.toNat, I64 x := fun x hx => by
    have := List.mem_of_mem_take hx
    simp only [List.mem_cons, List.not_mem_nil, or_false] at this
    rcases this with rfl | rfl | rfl
    · exact hi.a
    · exact hi.b
    · exact hi.c
  have h3 := total_map h2
  have h4 : ([i.a, i.b, i.c].take (opn i.op).1.toNat).length ≤ 3 := by simp; omega
  have h6 : total (if i.op = 1 then [showP i.v] else []) ≤ 21 ∧ (if i.op = 1 then [showP i.v] else []).length ≤ 1 := by
    split
    · rename_i hop
      have hs : i.s.length ≤ 10 := by
        unfold rightB tailOk at h
        simp only [hop, if_true, Bool.and_eq_true, decide_eq_true_eq] at h
        exact h.2.2
      have : (showP i.v).length ≤ 21 := by
        unfold showP
        split
        · exact itoa_len hi.n
        · simp only [List.length_cons, hexP_length]; omega
      simpa [total] using this
    · simp [total]
  unfold lineP wordsP
  simp only [List.cons_append, joinP, List.length_append, sepP_len, total_append, List.length_map]
  omega
theorem lines_short : ∀ {L : List In}, (∀ i ∈ L, i.Ok ∧ rightB i = true) → (linesP L).length ≤ L.length * 151
  | [], _ => by simp [linesP]
  | i :: L, h => by
    obtain ⟨h1, h2⟩ := h i (by simp)
    have := line_short h1 h2
    have ih := lines_short (L := L) (fun j hj => h j (by simp [hj]))
    have e : linesP (i :: L) = lineP i ++ 10 :: linesP L := by simp [linesP]
    rw [e]
    simp only [List.length_append, List.length_cons]
    omega

/- what is read has just its words -/
theorem num_back {s : List UInt8} (h : (numP s).2 = true ∧ 0 ≤ (numP s).1 ∧ (numP s).1 ≤ 255) : Lib.itoa (numP s).1 = s := numP_back h.1
theorem args_back (i j : In) : ∀ (ss : List (List UInt8)), ss.length ≤ 3 → argsGo i 0 ss = some j → j.op = i.op ∧ j.v = i.v ∧ ([j.a, j.b, j.c].take ss.length).map Lib.itoa = ss ∧ (i.Ok → j.Ok) := by
  intro ss hl h
  match ss, hl, h with
  | [], _, h => simp only [argsGo, Option.some.injEq] at h; subst h; exact ⟨rfl, rfl, rfl, id⟩
  | [s], _, h =>
    simp only [argsGo] at h
    split at h
    · rename_i h1
      simp only [Option.some.injEq] at h; subst h
      exact ⟨rfl, rfl, by simp [In.setA, num_back h1], fun h => setA_ok h 0 (numP_i64 _)⟩
    · cases h
  | [s, t], _, h =>
    simp only [argsGo] at h
    split at h
    · rename_i h1
      split at h
      · rename_i h2
        simp only [Option.some.injEq] at h; subst h
        exact ⟨rfl, rfl, by simp [In.setA, num_back h1, num_back h2], fun h => setA_ok (setA_ok h 0 (numP_i64 _)) 1 (numP_i64 _)⟩
      · cases h
    · cases h
  | [s, t, w], _, h =>
    simp only [argsGo] at h
    split at h
    · rename_i h1
      split at h
      · rename_i h2
        split at h
        · rename_i h3
          simp only [Option.some.injEq] at h; subst h
          exact ⟨rfl, rfl, by simp [In.setA, num_back h1, num_back h2, num_back h3], fun h => setA_ok (setA_ok (setA_ok h 0 (numP_i64 _)) 1 (numP_i64 _)) 2 (numP_i64 _)⟩
        · cases h
      · cases h
    · cases h
theorem fin_back {o : Option In} {i : In} (h : o.bind finP = some i) : o = some i ∧ rightB i = true := by
  cases o with
  | none => cases h
  | some j =>
    simp only [Option.bind_some, finP] at h
    split at h
    · rename_i hc
      cases h
      exact ⟨rfl, right_of hc⟩
    · cases h

theorem words_inst {w : List (List UInt8)} {i : In} (hne : w ≠ []) (hw : ∀ s ∈ w, s.length ≤ 1048576) (h : instP w = some i) : wordsP i = w ∧ rightB i = true ∧ i.Ok := by
  match w, hne with
  | w0 :: ss, _ =>
    unfold instP at h
    obtain ⟨op, hopeq⟩ : ∃ op, op = idxP ((w0 :: ss).headD []) := ⟨_, rfl⟩
    obtain ⟨tl, htl⟩ : ∃ tl, tl = (w0 :: ss).tail := ⟨_, rfl⟩
    rw [← hopeq, ← htl] at h
    have hop0 : op = idxP w0 := hopeq
    have htl0 : tl = ss := htl
    have hw : ∀ s ∈ tl, s.length ≤ 1048576 := fun s hs => hw s (List.mem_cons_of_mem _ (htl0 ▸ hs))
    clear hopeq htl
    by_cases ho : (opn op).2 = false
    · rw [if_pos ho] at h; cases h
    · rw [if_neg ho] at h
      have ho : (opn op).2 = true := by simpa using ho
      have hname : nameP op = w0 := by rw [hop0] at ho ⊢; exact idx_name ho
      obtain ⟨n, hn, hn3⟩ := opn_nat op
      rw [hn, Int.toNat_natCast] at h
      by_cases hop : op = 1
      · rw [if_pos hop] at h
        by_cases hl : tl.length = n + 1
        · rw [if_neg (by simp [hl])] at h
          have hg : tl[n]? = some (tl[n]'(by omega)) := List.getElem?_eq_getElem (by omega)
          have hsl := hw (tl[n]'(by omega)) (List.getElem_mem _)
          have hsplit : tl = tl.take n ++ [tl[n]'(by omega)] := by
            have := List.take_append_drop n tl
            rw [List.drop_eq_getElem_cons (show n < tl.length by omega), List.drop_eq_nil_of_le (show tl.length ≤ n + 1 by omega)] at this
            exact this.symm
          rw [hg] at h
          generalize tl[n]'(by omega) = x at h hsl hsplit
          simp only [Option.getD_some] at h
          by_cases hv : (valueP x).2 = false
          · rw [if_pos hv] at h; cases h
          · rw [if_neg hv] at h
            have hv : (valueP x).2 = true := by simpa using hv
            obtain ⟨h1, h2⟩ := fin_back h
            obtain ⟨a1, a2, a3, a4⟩ := args_back _ i (tl.take n) (by rw [List.length_take]; omega) h1
            simp only at a1
            have hlt : (tl.take n).length = n := by rw [List.length_take]; omega
            rw [hlt] at a3
            obtain ⟨v1, v2, v3⟩ := valueP_ok x
            refine ⟨?_, h2, a4 ⟨hop0 ▸ idxP_i64 _, z0, z0, z0, v1, v2, Nat.le_trans (Nat.le_trans v3 hsl) (by decide)⟩⟩
            have hsv : showP i.v = x := by rw [a2]; exact show_value hv
            unfold wordsP
            rw [a1, hname, hn, Int.toNat_natCast, a3, if_pos hop, hsv]
            rw [← htl0]
            conv => rhs; rw [hsplit]
            simp
        · rw [if_pos hl] at h; cases h
      · rw [if_neg hop] at h
        by_cases hl : tl.length = n
        · rw [if_neg (by simp [hl])] at h
          obtain ⟨h1, h2⟩ := fin_back h
          obtain ⟨a1, a2, a3, a4⟩ := args_back _ i tl (by omega) h1
          simp only at a1
          rw [hl] at a3
          refine ⟨?_, h2, a4 ⟨hop0 ▸ idxP_i64 _, z0, z0, z0, z0, z0, by simp⟩⟩
          unfold wordsP
          rw [a1, hname, hn, Int.toNat_natCast, a3, if_neg hop, htl0]
          simp
        · rw [if_pos hl] at h; cases h

/-- A line as it's written again. -/
def wantL (ln : List UInt8) : List UInt8 := if fieldsW ln = [] then [] else joinP (fieldsW ln) ++ [10]
theorem read_only : ∀ (ls : List (List UInt8)) (k : Nat) (acc : List In) (k' : Nat) (acc' : List In), (∀ ln ∈ ls, ln.length ≤ 1048576) → acc.length ≤ 64 → (∀ i ∈ acc, i.Ok ∧ rightB i = true) → readGo ls k acc = .more k' acc' →
    acc'.length ≤ 64 ∧ (∀ i ∈ acc', i.Ok ∧ rightB i = true) ∧ linesP acc' = linesP acc ++ ls.flatMap wantL
  | [], k, acc, k', acc', _, hl, hok, h => by
    simp only [readGo, Stp.more.injEq] at h
    obtain ⟨rfl, rfl⟩ := h
    exact ⟨hl, hok, by simp⟩
  | ln :: ls, k, acc, k', acc', hln, hl, hok, h => by
    rw [readGo] at h
    split at h
    · rename_i k1 acc1 hst
      have hst' := hst
      obtain ⟨rfl, hl1⟩ := stepP_more hst hl
      unfold stepP at hst'
      split at hst'
      · rename_i hf
        simp only [Stp.more.injEq] at hst'
        obtain ⟨_, rfl⟩ := hst'
        obtain ⟨q1, q2, q3⟩ := read_only ls _ _ k' acc' (fun x hx => hln x (by simp [hx])) hl hok h
        exact ⟨q1, q2, by rw [q3]; simp [wantL, hf]⟩
      · rename_i hf
        split at hst'
        · cases hst'
        · rename_i i hi
          split at hst'
          · cases hst'
          · simp only [Stp.more.injEq] at hst'
            obtain ⟨_, rfl⟩ := hst'
            obtain ⟨w1, w2, w3⟩ := words_inst hf (fun s hs => Nat.le_trans ((fieldsW_len ln).2 s hs) (hln ln (by simp))) hi
            obtain ⟨q1, q2, q3⟩ := read_only ls _ _ k' acc' (fun x hx => hln x (by simp [hx])) hl1 (fun j hj => by
              rcases List.mem_append.1 hj with hj | hj
              · exact hok j hj
              · simp at hj; subst hj; exact ⟨w3, w2⟩) h
            refine ⟨q1, q2, ?_⟩
            rw [q3]
            have : lineP i = joinP (fieldsW ln) := by unfold lineP; rw [w1]
            simp [linesP, wantL, hf, this]
    · cases h
theorem splitGo_len (c : UInt8) : ∀ (l cur : List UInt8), (splitGo c cur l).length ≤ l.length + 1 ∧ ∀ x ∈ splitGo c cur l, x.length ≤ cur.length + l.length
  | [], cur => by simp [splitGo]
  | x :: r, cur => by
    unfold splitGo
    split
    · have := splitGo_len c r []
      refine ⟨by simp; omega, fun y hy => ?_⟩
      rcases List.mem_cons.1 hy with rfl | hy
      · omega
      · have := this.2 y hy; simp at this ⊢; omega
    · have := splitGo_len c r (cur ++ [x])
      refine ⟨by simp at this ⊢; omega, fun y hy => ?_⟩
      have := this.2 y hy
      simp at this ⊢; omega
theorem splitB_len (c : UInt8) (l : List UInt8) : (splitB c l).length ≤ l.length + 1 ∧ ∀ x ∈ splitB c l, x.length ≤ l.length := by
  have := splitGo_len c l []
  simpa [splitB] using this
/-- The words, by what lies between blanks. -/
theorem fields_split : ∀ (l cur : List UInt8), wgo cur l = (splitGo 32 cur l).filter (fun x => decide (x ≠ []))
  | [], cur => by
    unfold wgo splitGo
    by_cases h : cur = []
    · simp [h]
    · simp [h]
  | c :: r, cur => by
    unfold wgo splitGo
    split
    · by_cases h : cur = []
      · simp [h, fields_split r []]
      · simp [h, fields_split r []]
    · exact fields_split r (cur ++ [c])
end Go.Fx.Tryz
/- Programs held against one another. -/
namespace Go.Fx.Tryz
open Go Go.Fx
set_option linter.unusedSimpArgs false
set_option linter.unusedVariables false

abbrev eqIn : EqD := .st [(0, (1, (false, (.sc .int)))), (1, (1, (false, (.sc .int)))), (2, (1, (false, (.sc .int)))), (3, (1, (false, (.sc .int)))), (4, (3, (true, (.st [(0, (1, (false, (.sc .int)))), (1, (1, (false, (.sc .int)))), (2, (1, (false, (.sc .string))))]))))]
theorem eq_in (i : In) : runEq true eqIn (.agg (encIn.cells i).toArray) (.agg (encIn.cells i).toArray) = some (.bool false) := by
  have hs : ((⟨i.s.toArray⟩ : ByteArray) == ⟨i.s.toArray⟩) = true := by
    have : ((⟨i.s.toArray⟩ : ByteArray) == ⟨i.s.toArray⟩) = (i.s.toArray == i.s.toArray) := rfl
    rw [this]; simp
  simp [runEq, eqIn, encIn, aeqD, aeqFs, partOf, aeq1, hs]

theorem same_loop {L : List In} {v w : Value} {m : Mem} (hn : L.length ≤ 2 ^ 40) (hv : TSl encIn m v L) (hw : TSl encIn m w L) : ∀ (d i : Nat), i + d = L.length → P12_0 v w (.int .i64 (i : Int)) m = some (.bool true, m) := by
  intro d
  induction d with
  | zero =>
    intro i hd
    obtain rfl : i = L.length := by omega
    rw [P12_0_eq]
    simp -implicitDefEqProofs only [st0, newVal, reduceIte, hv.len, Int.lt_irrefl]
  | succ d ih =>
    intro i hd
    have hi : i < L.length := by omega
    have hlt : (i : Int) < (L.length : Int) := by omega
    have hx : L[i]? = some L[i] := List.getElem?_eq_getElem hi
    generalize L[i] = x at hx
    obtain ⟨b, off, p1, p2⟩ := hv.at .i64 hx
    obtain ⟨b', off', q1, q2⟩ := hw.at .i64 hx
    have p1 : runIndexS 7 v (.int .i64 (i : Int)) = _ := p1
    have q1 : runIndexS 7 w (.int .i64 (i : Int)) = _ := q1
    have p2 : runLoadN 7 (.pointer (some ⟨b, off, none⟩)) m = _ := (p2 m hv).1
    have q2 : runLoadN 7 (.pointer (some ⟨b', off', none⟩)) m = _ := (q2 m hw).1
    have e := eq_in x
    rw [P12_0_eq]
    simp -implicitDefEqProofs only [st0, newVal, reduceIte, hv.len, hlt, p1, q1, p2, q2, e, i64_succ (show i < 2 ^ 62 by omega)]
    exact ih (i + 1) (by omega)
theorem same_ok {L : List In} {v w : Value} {m : Mem} (hn : L.length ≤ 2 ^ 40) (hv : TSl encIn m v L) (hw : TSl encIn m w L) : Call S1 tab 12 [v, w] m = some (.bool true, m) := by
  rw [C12]
  simp -implicitDefEqProofs only [st0, newVal, reduceIte, hv.len, hw.len]
  exact same_loop hn hv hw L.length 0 (by omega)

end Go.Fx.Tryz
/- The reference's Split and Words. -/
namespace Go.Fx.Tryz
open Go Go.Fx
set_option linter.unusedSimpArgs false
set_option linter.unusedVariables false

theorem split_loop {s : List UInt8} {c : UInt8} (hs : s.length ≤ 2 ^ 30) : ∀ (d i frm : Nat) (m : Mem) (v : Value) (l : List (List UInt8)), i + d = s.length → frm ≤ i → TAp encS 9 m v l → l.length ≤ i →
    W (P25_0 (str s) (.int .u8 (c.toNat : Int)) v (.int .i64 (frm : Int)) (.int .i64 (i : Int)) m) fun r m' => TAp encS 9 m' r (l ++ splitGo c (pieceP s (frm, i)) (s.drop i)) ∧ Upd (blkOf v) m m' ∧ ∀ b ∈ blkOf r, b ∈ blkOf v ∨ m.next ≤ b := by
  intro d
  induction d with
  | zero =>
    intro i frm m v l hd hf h hl
    obtain rfl : i = s.length := by omega
    rw [P25_0_eq]
    simp -implicitDefEqProofs only [st0, newVal, reduceIte, len_str, Int.le_refl, slice_str (l := s) hf (Nat.le_refl _), afill_s]
    refine app_new (E := encS) [(s.drop frm).take (s.length - frm)] (by decide) h (by simp; omega) fun v' m' g1 g2 g3 => ?_
    rw [i64_succ (show s.length < 2 ^ 62 by omega)]
    have hgt : ¬ (((s.length + 1 : Nat) : Int) ≤ (s.length : Int)) := by omega
    simp -implicitDefEqProofs only [st0, newVal, reduceIte]
    rw [P25_0_eq]
    simp -implicitDefEqProofs only [st0, newVal, reduceIte, len_str, hgt]
    exact ⟨by rw [List.drop_length, splitGo]; exact g1, g2, g3⟩
  | succ d ih =>
    intro i frm m v l hd hf h hl
    have hi : i < s.length := by omega
    have hle : (i : Int) ≤ (s.length : Int) := by omega
    have hne : ¬ ((i : Int) = (s.length : Int)) := by omega
    have hx := idx_str (l := s) (i := i) (List.getElem?_eq_getElem hi)
    have hdrop : s.drop i = s[i] :: s.drop (i + 1) := List.drop_eq_getElem_cons hi
    have hpm : pieceP s (frm, i + 1) = pieceP s (frm, i) ++ [s[i]] := by
      rw [piece_more (w := 1) hf, hdrop, List.take_succ_cons, List.take_zero]
    rw [hdrop]
    generalize s[i] = x at hx hpm
    rw [P25_0_eq]
    by_cases hc : x = c
    · have hcc : ((x.toNat : Int) = (c.toNat : Int)) = True := by simp [hc]
      simp -implicitDefEqProofs only [st0, newVal, reduceIte, len_str, hle, hne, hx, hcc, slice_str (l := s) hf (Nat.le_of_lt hi), afill_s]
      refine app_new (E := encS) [(s.drop frm).take (i - frm)] (by decide) h (by simp; omega) fun v' m' g1 g2 g3 => ?_
      simp -implicitDefEqProofs only [st0, newVal, reduceIte, i64_succ (show i < 2 ^ 62 by omega)]
      refine (ih (i + 1) (i + 1) m' v' _ (by omega) (Nat.le_refl _) g1 (by simp; omega)).mono fun r m2 ⟨q1, q2, q3⟩ => ⟨?_, g2.then' q2 g3, fun b hb => ?_⟩
      · rw [splitGo, if_pos hc]
        have : pieceP s (i + 1, i + 1) = [] := by simp [pieceP]
        rw [this] at q1
        simpa [pieceP] using q1
      · rcases q3 b hb with q | q
        · exact g3 b q
        · exact .inr (Nat.le_trans g2.next q)
    · have hcc : ((x.toNat : Int) = (c.toNat : Int)) = False := by
        simp only [eq_iff_iff, iff_false]
        intro e
        exact hc (UInt8.toNat_inj.1 (by omega))
      simp -implicitDefEqProofs only [st0, newVal, reduceIte, len_str, hle, hne, hx, hcc, i64_succ (show i < 2 ^ 62 by omega)]
      refine (ih (i + 1) frm m v l (by omega) (by omega) h (by omega)).mono fun r m2 ⟨q1, q2, q3⟩ => ⟨?_, q2, q3⟩
      rw [splitGo, if_neg hc, ← hpm]
      exact q1
theorem rsplit_ok {s : List UInt8} (c : UInt8) (hs : s.length ≤ 2 ^ 30) (m : Mem) : W (Call S1 tab 25 [str s, .int .u8 (c.toNat : Int)] m) fun r m' => TAp encS 9 m' r (splitB c s) ∧ Upd [] m m' ∧ ∀ b ∈ blkOf r, m.next ≤ b := by
  rw [C25]
  refine (split_loop hs s.length 0 0 m (.slice none 0 0) [] (by omega) (Nat.le_refl _) (TAp.nil _) (by simp)).mono fun r m' ⟨q1, q2, q3⟩ => ⟨?_, q2.mono (fun b hb => by simp [blkOf] at hb), fun b hb => ?_⟩
  · have : pieceP s (0, 0) = [] := by simp [pieceP]
    rw [this] at q1
    simpa [splitB] using q1
  · rcases q3 b hb with q | q
    · simp [blkOf] at q
    · exact q

theorem rwords_loop {ls : List (List UInt8)} {lv : Value} (hn : ls.length ≤ 2 ^ 40) : ∀ (d i : Nat) (m : Mem) (v : Value) (l : List (List UInt8)), i + d = ls.length → (∀ m', Upd (blkOf v) m m' → TSl encS m' lv ls) → TAp encS 9 m v l → l.length ≤ i →
    W (P26_0 v lv (.int .i64 (i : Int)) m) fun r m' => TAp encS 9 m' r (l ++ (ls.drop i).filter (fun x => decide (x ≠ []))) ∧ Upd (blkOf v) m m' ∧ ∀ b ∈ blkOf r, b ∈ blkOf v ∨ m.next ≤ b := by
  intro d
  induction d with
  | zero =>
    intro i m v l hd hT h hl
    obtain rfl : i = ls.length := by omega
    rw [P26_0_eq]
    simp -implicitDefEqProofs only [st0, newVal, reduceIte, (hT m (Upd.refl _ _)).len, Int.lt_irrefl]
    exact ⟨by simpa using h, Upd.refl _ _, fun b hb => .inl hb⟩
  | succ d ih =>
    intro i m v l hd hT h hl
    have hi : i < ls.length := by omega
    have hlt : (i : Int) < (ls.length : Int) := by omega
    have hT0 := hT m (Upd.refl _ _)
    obtain ⟨p, p1, p2⟩ := idx_s hT0 hi
    have hdrop : ls.drop i = ls[i] :: ls.drop (i + 1) := List.drop_eq_getElem_cons hi
    rw [hdrop]
    generalize ls[i] = w at p2
    have hq : arith .neq (str w) (.string ⟨#[]⟩) = some (.bool (decide (¬ w = []))) := neq_str w []
    rw [P26_0_eq]
    by_cases hw : w = []
    · have hw' := eq_true hw
      simp -implicitDefEqProofs only [st0, newVal, reduceIte, hT0.len, hlt, p1, p2, hq, hw', i64_succ (show i < 2 ^ 62 by omega)]
      refine (ih (i + 1) m v l (by omega) hT h (by omega)).mono fun r m2 ⟨q1, q2, q3⟩ => ⟨?_, q2, q3⟩
      rw [List.filter_cons_of_neg (by simp [hw])]
      simpa using q1
    · simp -implicitDefEqProofs only [st0, newVal, reduceIte, hT0.len, hlt, p1, p2, hq, hw, afill_s]
      refine app_new (E := encS) [w] (by decide) h (by simp; omega) fun v' m' g1 g2 g3 => ?_
      simp -implicitDefEqProofs only [st0, newVal, reduceIte, i64_succ (show i < 2 ^ 62 by omega)]
      refine (ih (i + 1) m' v' _ (by omega) (fun m2 h2 => hT m2 (g2.then' h2 g3)) g1 (by simp; omega)).mono fun r m2 ⟨q1, q2, q3⟩ => ⟨?_, g2.then' q2 g3, fun b hb => ?_⟩
      · rw [List.filter_cons_of_pos (by simp [hw])]
        simpa using q1
      · rcases q3 b hb with q | q
        · exact g3 b q
        · exact .inr (Nat.le_trans g2.next q)
theorem rwords_ok {s : List UInt8} (hs : s.length ≤ 2 ^ 30) (m : Mem) : W (Call S1 tab 26 [str s] m) fun r m' => TAp encS 9 m' r (fieldsW s) ∧ Upd [] m m' ∧ ∀ b ∈ blkOf r, m.next ≤ b := by
  rw [C26]
  refine W.bind (rsplit_ok 32 hs m) fun lv m1 ⟨h1, u1, b1⟩ => ?_
  have hlen := (splitB_len 32 s).1
  have hlt := h1.lt
  refine (rwords_loop (ls := splitB 32 s) (lv := lv) (by omega) (splitB 32 s).length 0 m1 (.slice none 0 0) [] (by omega) (fun m' h' => h1.tsl.upd h' (fun b hb => ⟨hlt b hb, by simp [blkOf]⟩)) (TAp.nil _) (by simp)).mono fun r m' ⟨q1, q2, q3⟩ => ⟨?_, u1.then' q2 (fun b hb => by simp [blkOf] at hb), fun b hb => ?_⟩
  · have : fieldsW s = (splitB 32 s).filter (fun x => decide (x ≠ [])) := fields_split s []
    rw [this]
    simpa using q1
  · rcases q3 b hb with q | q
    · simp [blkOf] at q
    · exact Nat.le_trans u1.next q

theorem wgo_total : ∀ (l cur : List UInt8), total (wgo cur l) ≤ cur.length + l.length
  | [], cur => by
    unfold wgo
    split <;> simp [total]
  | c :: r, cur => by
    unfold wgo
    split
    · split
      · have := wgo_total r []
        simp at this ⊢; omega
      · have := wgo_total r []
        simp [total] at this ⊢; omega
    · have := wgo_total r (cur ++ [c])
      simp at this ⊢; omega
theorem join_le : ∀ (ws : List (List UInt8)), (joinP ws).length ≤ total ws + ws.length
  | [] => by simp [joinP]
  | w :: r => by
    have := sepP_len r
    simp only [joinP, List.length_append, total, List.map_cons, List.sum_cons, List.length_cons] at this ⊢
    omega
theorem total_take (k : Nat) (ws : List (List UInt8)) : total (ws.take k) ≤ total ws := by
  have h : total ws = total (ws.take k) + total (ws.drop k) := by rw [← total_append, List.take_append_drop]
  omega
theorem join_take {ws : List (List UInt8)} {k : Nat} (h1 : 1 ≤ k) (hk : k < ws.length) : joinP (ws.take (k + 1)) = joinP (ws.take k) ++ 32 :: ws[k] := by
  match ws, k, h1, hk with
  | w :: r, k + 1, _, hk =>
    have hk' : k < r.length := by simpa using hk
    have e : r.take (k + 1) = r.take k ++ [r[k]] := by rw [List.take_add_one, List.getElem?_eq_getElem hk']; rfl
    rw [List.take_succ_cons, List.take_succ_cons, e]
    simp only [joinP, sepP, List.flatMap_append, List.flatMap_cons, List.flatMap_nil, List.append_nil, List.append_assoc, List.getElem_cons_succ]

theorem readGo_err : ∀ (ls : List (List UInt8)) (k : Nat) (acc : List In) (k' : Nat) (e : Int), readGo ls k acc = .err k' e → e ≠ 0
  | [], k, acc, k', e, h => by cases h
  | ln :: ls, k, acc, k', e, h => by
    rw [readGo] at h
    split at h
    · exact readGo_err ls _ _ _ _ h
    · rename_i k1 e1 hst
      cases h
      unfold stepP at hst
      split at hst
      · cases hst
      · split at hst
        · cases hst; decide
        · split at hst
          · cases hst; decide
          · cases hst

def smallB : Nat := 1048576
theorem smallB_eq : smallB = 1048576 := rfl
end Go.Fx.Tryz
