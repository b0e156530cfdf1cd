/- What is written is read again; what is read has just its words: the plain law. -/
import Derived.Test.YtgmkehbebpljjaaDoorTextO
namespace Go.Fx.Tryd
open Go Go.Fx
set_option linter.unusedSimpArgs false
set_option linter.unusedVariables false

/- digits -/
theorem dig_nat {d : Nat} (h : d < 10) : (UInt8.ofNat (48 + d)).toNat = 48 + d := by
  simp
  omega
theorem dd_dig : ∀ (u : Nat), ∀ c ∈ Lib.decDigits u, 48 ≤ c.toNat ∧ c.toNat ≤ 57 := by
  intro u
  induction u using Nat.strongRecOn with
  | _ u ih =>
    intro c hc
    by_cases h : u < 10
    · rw [Lib.decDigits, dif_pos h] at hc
      simp only [List.mem_cons, List.not_mem_nil, or_false] at hc
      subst hc
      rw [dig_nat h]; omega
    · rw [Lib.decDigits, dif_neg h] at hc
      rcases List.mem_append.1 hc with hc | hc
      · exact ih (u / 10) (by omega) c hc
      · simp only [List.mem_cons, List.not_mem_nil, or_false] at hc
        subst hc
        rw [dig_nat (show u % 10 < 10 by omega)]; omega
theorem dd_ne (u : Nat) : Lib.decDigits u ≠ [] := by
  intro h
  have := Lib.decDigits_length u
  rw [h] at this
  have := Lib.nDigits_pos u
  simp at *
  omega
theorem pu_append (M : Nat) (r : List UInt8) : ∀ (l : List UInt8) (acc : Nat), Lib.parseUintM M acc (l ++ r) = match Lib.parseUintM M acc l with
    | .ok a => Lib.parseUintM M a r
    | e => e
  | [], acc => by simp [Lib.parseUintM]
  | c :: l, acc => by
    rw [List.cons_append, Lib.parseUintM, Lib.parseUintM]
    split
    · split
      · rfl
      · split
        · rfl
        · exact pu_append M r l _
    · rfl
theorem pu_dd : ∀ (u : Nat), u ≤ 18446744073709551615 → Lib.parseUintM 18446744073709551615 0 (Lib.decDigits u) = .ok u := by
  intro u
  induction u using Nat.strongRecOn with
  | _ u ih =>
    intro hu
    have one : ∀ (a d : Nat), d < 10 → a ≤ 1844674407370955161 → a * 10 + d ≤ 18446744073709551615 → Lib.parseUintM 18446744073709551615 a [UInt8.ofNat (48 + d)] = .ok (a * 10 + d) := by
      intro a d hd ha hs
      rw [Lib.parseUintM, dig_nat hd, if_pos (by omega), if_neg (by omega), if_neg (by omega), Lib.parseUintM]
      congr 1; omega
    by_cases h : u < 10
    · rw [Lib.decDigits, dif_pos h, one 0 u h (by omega) (by omega)]
      simp
    · rw [Lib.decDigits, dif_neg h, pu_append, ih (u / 10) (by omega) (by omega)]
      simp only
      rw [one (u / 10) (u % 10) (by omega) (by omega) (by omega)]
      congr 1; omega
theorem pi_itoa {n : Int} (h : I64 n) : Lib.parseIntB 64 (Lib.itoa n) = .ok n := by
  have h1 := h.1
  have h2 := h.2
  have hM : 2 ^ 64 - 1 = 18446744073709551615 := by decide
  have pb : ∀ u : Nat, u ≤ 18446744073709551615 → Lib.parseUintB 64 (Lib.decDigits u) = .ok u := by
    intro u hu
    rw [Lib.parseUintB, if_neg (dd_ne u), hM, pu_dd u hu]
  unfold Lib.itoa
  split
  · rename_i hn
    unfold Lib.parseIntB
    have h45 : (45 : UInt8).toNat = 45 := rfl
    simp only [h45, or_true, if_true, pb n.natAbs (by omega)]
    rw [if_neg (by simp), if_neg (by simp; omega)]
    congr 1; omega
  · rename_i hn
    cases hd : Lib.decDigits n.toNat with
    | nil => exact absurd hd (dd_ne _)
    | cons c r =>
      have hc := dd_dig n.toNat c (by rw [hd]; simp)
      have e := pb n.toNat (by omega)
      rw [hd] at e
      unfold Lib.parseIntB
      have c1 : ¬ (c.toNat = 43) := by omega
      have c2 : ¬ (c.toNat = 45) := by omega
      have e63 : (2 : Nat) ^ (64 - 1) = 9223372036854775808 := by decide
      simp only [c1, c2, or_self, if_false, e, not_false_eq_true, true_and, false_and, e63]
      rw [if_neg (show ¬ 9223372036854775808 ≤ n.toNat by omega)]
      congr 1
      exact Int.toNat_of_nonneg (by omega)
theorem numP_itoa {n : Int} (h : I64 n) : numP (Lib.itoa n) = (n, true) := by
  unfold numP
  rw [pi_itoa h]
  simp
theorem numP_back {s : List UInt8} (h : (numP s).2 = true) : Lib.itoa (numP s).1 = s := by
  unfold numP at h ⊢
  split at h
  · rename_i v hv
    simpa using h
  · simp at h
  · simp at h

/- words of lines -/
def goodW (w : List UInt8) : Prop := w ≠ [] ∧ ∀ c ∈ w, c ≠ 10 ∧ c ≠ 32
theorem wgo_sep : ∀ (w : List UInt8) (cur r : List UInt8), (∀ c ∈ w, c ≠ 32) → cur ++ w ≠ [] → wgo cur (w ++ 32 :: r) = (cur ++ w) :: wgo [] r := by
  intro w cur r h hne
  rw [wgo_run w cur (32 :: r) h, wgo, if_pos rfl, if_neg hne]
theorem wgo_last (w cur : List UInt8) (h : ∀ c ∈ w, c ≠ 32) (hne : cur ++ w ≠ []) : wgo cur w = [cur ++ w] := by
  have := wgo_run w cur [] h
  rw [List.append_nil] at this
  rw [this, wgo, if_neg hne]
theorem fields_join : ∀ (ws : List (List UInt8)), (∀ w ∈ ws, goodW w) → fieldsW (joinP ws) = ws
  | [], _ => rfl
  | [w], h => by
    have hw := h w (by simp)
    simp only [joinP, sepP, List.flatMap_nil, List.append_nil]
    exact (wgo_last w [] (fun c hc => (hw.2 c hc).2) (by simpa using hw.1)).trans (by simp)
  | w :: x :: r, h => by
    have hw := h w (by simp)
    have ih := fields_join (x :: r) (fun y hy => h y (by simp [hy]))
    have e : joinP (w :: x :: r) = w ++ 32 :: joinP (x :: r) := by simp [joinP, sepP]
    rw [e]
    unfold fieldsW at ih ⊢
    rw [wgo_sep w [] _ (fun c hc => (hw.2 c hc).2) (by simpa using hw.1), ih]
    simp
theorem no10_join : ∀ (ws : List (List UInt8)), (∀ w ∈ ws, goodW w) → (10 : UInt8) ∉ joinP ws
  | [], _ => by simp [joinP]
  | w :: r, h => by
    intro hm
    simp only [joinP, sepP, List.mem_append, List.mem_flatMap, List.mem_cons] at hm
    rcases hm with hm | ⟨x, hx, hm | hm⟩
    · exact ((h w (by simp)).2 10 hm).1 rfl
    · exact absurd hm (by decide)
    · exact ((h x (by simp [hx])).2 10 hm).1 rfl

theorem itoa_good (n : Int) : goodW (Lib.itoa n) := by
  have key : ∀ u : Nat, ∀ c ∈ Lib.decDigits u, c ≠ 10 ∧ c ≠ 32 := fun u c hc => by
    have := dd_dig u c hc
    exact ⟨fun e => by subst e; simp at this, fun e => by subst e; simp at this⟩
  unfold Lib.itoa goodW
  split
  · refine ⟨by simp, fun c hc => ?_⟩
    rcases List.mem_cons.1 hc with rfl | hc
    · decide
    · exact key _ c hc
  · exact ⟨dd_ne _, key _⟩
theorem itoa_head (n : Int) : (cutP (Lib.itoa n)).2 = false := by
  have key : ∀ (c : UInt8) (r : List UInt8), c ≠ 39 → (cutP (c :: r)).2 = false := fun c r h => by rw [cutP_cons, if_neg h]
  unfold Lib.itoa
  split
  · exact key _ _ (by decide)
  · cases hd : Lib.decDigits n.toNat with
    | nil => exact absurd hd (dd_ne _)
    | cons c r =>
      have := dd_dig n.toNat c (by rw [hd]; simp)
      exact key _ _ (fun e => by subst e; simp at this)
theorem hexd_good : ∀ k : Fin 16, hexd k.val ≠ 10 ∧ hexd k.val ≠ 32 ∧ hexi (hexd k.val) = (k.val : Int) := by decide +kernel
theorem hexd_of {k : Nat} (h : k < 16) : hexd k ≠ 10 ∧ hexd k ≠ 32 ∧ hexi (hexd k) = (k : Int) := hexd_good ⟨k, h⟩
theorem hexi_back : ∀ c : Fin 256, 0 ≤ hexi (UInt8.ofNat c.val) → hexd (hexi (UInt8.ofNat c.val)).toNat = UInt8.ofNat c.val := by decide +kernel
theorem hexi_of {c : UInt8} (h : 0 ≤ hexi c) : hexd (hexi c).toNat = c := by
  have := hexi_back ⟨c.toNat, c.toNat_lt⟩
  simpa [h] using this
theorem hexP_ok : ∀ s : List UInt8, ∀ c ∈ hexP s, c ≠ 10 ∧ c ≠ 32
  | [], c, h => by simp [hexP] at h
  | x :: s, c, h => by
    have hx : x.toNat < 256 := x.toNat_lt
    simp only [hexP, List.mem_cons] at h
    rcases h with rfl | rfl | h
    · have := hexd_of (show x.toNat / 16 < 16 by omega); exact ⟨this.1, this.2.1⟩
    · have := hexd_of (show x.toNat % 16 < 16 by omega); exact ⟨this.1, this.2.1⟩
    · exact hexP_ok s c h
theorem unhex_hex : ∀ s : List UInt8, unhexP (hexP s) = some (s, [])
  | [] => rfl
  | x :: s => by
    have hx : x.toNat < 256 := x.toNat_lt
    have h1 := (hexd_of (show x.toNat / 16 < 16 by omega)).2.2
    have h2 := (hexd_of (show x.toNat % 16 < 16 by omega)).2.2
    rw [hexP, unhexP, h1, h2, if_neg (by omega), unhex_hex s]
    simp only [Option.map_some, Int.toNat_natCast]
    have : 16 * (x.toNat / 16) + x.toNat % 16 = x.toNat := by omega
    rw [this]
    simp
theorem hex_unhex : ∀ (d : Nat) (h : List UInt8) (b : List UInt8), h.length ≤ d → unhexP h = some (b, []) → hexP b = h := by
  intro d
  induction d with
  | zero => intro h b hd e; obtain rfl : h = [] := List.length_eq_zero_iff.1 (by omega); simp [unhexP] at e; subst e; rfl
  | succ d ih =>
    intro h b hd e
    match h, hd, e with
    | [], _, e => simp [unhexP] at e; subst e; rfl
    | [a], _, e => simp [unhexP] at e
    | x :: y :: r, hd, e =>
      rw [unhexP] at e
      split at e
      · cases e
      · rename_i hn
        simp only [Option.map_eq_some_iff, Prod.mk.injEq] at e
        obtain ⟨⟨p1, p2⟩, hp, rfl, rfl⟩ := e
        have hx := hexi_bounds x
        have hy := hexi_bounds y
        have e1 : (UInt8.ofNat (16 * (hexi x).toNat + (hexi y).toNat)).toNat = 16 * (hexi x).toNat + (hexi y).toNat := by
          simp; omega
        have d1 : (16 * (hexi x).toNat + (hexi y).toNat) / 16 = (hexi x).toNat := by omega
        have d2 : (16 * (hexi x).toNat + (hexi y).toNat) % 16 = (hexi y).toNat := by omega
        rw [hexP, e1, d1, d2, hexi_of (by omega), hexi_of (by omega), ih r p1 (by simp only [List.length_cons] at hd; omega) hp]
theorem show_good (v : Va) : goodW (showP v) := by
  unfold showP
  split
  · exact itoa_good _
  · refine ⟨by simp, fun c hc => ?_⟩
    rcases List.mem_cons.1 hc with rfl | hc
    · decide
    · exact hexP_ok _ c hc
theorem value_show {v : Va} (hn : I64 v.n) (hodd : oddV v = false) : valueP (showP v) = (v, true) := by
  obtain ⟨k, n, s⟩ := v
  unfold oddV at hodd
  by_cases h1 : k = 1
  · subst h1
    have hs : s = [] := by simpa using hodd
    subst hs
    have e : showP ⟨1, n, []⟩ = Lib.itoa n := rfl
    rw [e, valueP, itoa_head, if_neg (by decide), numP_itoa hn]
  · by_cases h2 : k = 2
    · subst h2
      have hz : n = 0 := by simpa using hodd
      subst hz
      have e : showP ⟨2, 0, s⟩ = 39 :: hexP s := rfl
      have c : cutP (39 :: hexP s) = (hexP s, true) := rfl
      rw [e, valueP, c, if_pos rfl]
      simp only [unhex_hex]
      simp
    · simp [h1, h2] at hodd
theorem show_value {s : List UInt8} (h : (valueP s).2 = true) : showP (valueP s).1 = s := by
  unfold valueP at h ⊢
  by_cases hc : (cutP s).2 = true
  · rw [if_pos hc] at h ⊢
    cases hu : unhexP (cutP s).1 with
    | none => rw [hu] at h; simp at h
    | some p =>
      obtain ⟨b, l⟩ := p
      rw [hu] at h
      simp only [decide_eq_true_eq] at h
      subst h
      have hh := hex_unhex _ _ _ (Nat.le_refl _) hu
      have hs : s = 39 :: (cutP s).1 := by
        cases s with
        | nil => simp [cutP] at hc
        | cons c r =>
          rw [cutP_cons] at hc ⊢
          split at hc
          · rename_i e; rw [if_pos e]; simp [e]
          · cases hc
      show 39 :: hexP b = s
      rw [hh]; exact hs.symm
  · rw [if_neg hc] at h ⊢
    exact numP_back h

/- names -/
theorem name_idx : ∀ k : Fin 20, k.val ≠ 0 → idxP (nameP (k.val : Int)) = (k.val : Int) ∧ nameP (k.val : Int) ≠ [] ∧ ∀ c ∈ nameP (k.val : Int), c ≠ 10 ∧ c ≠ 32 := by decide +kernel
theorem opn_range {op : Int} (h : (opn op).2 = true) : 0 < op ∧ op ≤ 19 := by
  unfold opn at h
  split at h
  · cases h
  · omega
theorem name_of {op : Int} (h : (opn op).2 = true) : idxP (nameP op) = op ∧ goodW (nameP op) := by
  obtain ⟨h1, h2⟩ := opn_range h
  obtain ⟨k, rfl⟩ := Int.eq_ofNat_of_zero_le (Int.le_of_lt h1)
  have := name_idx ⟨k, by omega⟩ (by simp; omega)
  exact ⟨this.1, this.2⟩
theorem idx_name {x : List UInt8} (h : (opn (idxP x)).2 = true) : nameP (idxP x) = x := by
  have key : ∀ (l : List (List UInt8)) (i : Nat), (∀ j, l[j]? = opNames[i + j]?) → 0 ≤ idxGo x i l → nameP (idxGo x i l) = x := by
    intro l
    induction l with
    | nil => intro i _ h; simp [idxGo] at h
    | cons y r ih =>
      intro i hl h
      simp only [idxGo] at h ⊢
      split at h
      · rename_i e
        rw [if_pos e]
        subst e
        have h0 := hl 0
        simp only [List.getElem?_cons_zero, Nat.add_zero] at h0
        have hi : i < 20 := by
          rcases Nat.lt_or_ge i 20 with h | h
          · exact h
          · rw [List.getElem?_eq_none (show opNames.length ≤ i from h)] at h0; cases h0
        unfold nameP
        rw [if_neg (by omega), Int.toNat_natCast, ← h0]
        rfl
      · rename_i e
        rw [if_neg e]
        exact ih (i + 1) (fun j => by
          have := hl (j + 1)
          simp only [List.getElem?_cons_succ] at this
          rw [this]; congr 1; omega) h
  exact key opNames 0 (fun j => by simp) (Int.le_of_lt (opn_range h).1)

theorem words_good {i : In} (h : rightB i = true) : ∀ w ∈ wordsP i, goodW w := by
  have hn := (name_of (rightB_opn h)).2
  intro w hw
  simp only [wordsP, List.cons_append, List.mem_cons, List.mem_append, List.mem_map] at hw
  rcases hw with rfl | ⟨x, _, rfl⟩ | hw
  · exact hn
  · exact itoa_good x
  · split at hw
    · simp at hw; subst hw; exact show_good _
    · simp at hw
end Go.Fx.Tryd
