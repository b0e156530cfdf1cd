/- strings.Builder, strings.Join. -/
import Derived.Test.YtgmkehbebpljjaaGreatDoorTextAD
import Derived.Lib.ItoaNum
namespace Go.Fx.Tryz
open Go Go.Fx
set_option linter.unusedSimpArgs false
set_option linter.unusedVariables false

/-- A builder behind a pointer: its block, its slice, what is in it. -/
structure Bld (m : Mem) (bp : Nat) (v : Value) (l : List UInt8) : Prop where
  blk : ∃ a, m.get bp = some ⟨.cells [a, v] 41, false, none⟩ ∧ (a = .pointer none ∨ a = .pointer (some ⟨bp, 0, none⟩))
  buf : TAp encB 5 m v l
  out : bp ∉ blkOf v
  lt : bp < m.next
/-- What a step on a builder leaves. -/
structure BSt (bp : Nat) (v : Value) (m : Mem) (v' : Value) (m' : Mem) : Prop where
  upd : Upd (bp :: blkOf v) m m'
  own : ∀ c ∈ blkOf v', c ∈ blkOf v ∨ m.next ≤ c
theorem BSt.refl (bp : Nat) (v : Value) (m : Mem) : BSt bp v m v m := ⟨Upd.refl _ _, fun c h => .inl h⟩
theorem BSt.trans {bp : Nat} {v v' v'' : Value} {m m' m'' : Mem} (h : BSt bp v m v' m') (h' : BSt bp v' m' v'' m'') : BSt bp v m v'' m'' := by
  refine ⟨h.upd.then' h'.upd fun b hb => ?_, fun c hc => ?_⟩
  · rcases List.mem_cons.1 hb with rfl | hb
    · exact .inl (List.mem_cons_self ..)
    · rcases h.own b hb with q | q
      · exact .inl (List.mem_cons_of_mem _ q)
      · exact .inr q
  · rcases h'.own c hc with q | q
    · exact h.own c q
    · exact .inr (Nat.le_trans h.upd.next q)
theorem Bld.keep {m m' : Mem} {bp : Nat} {v : Value} {l : List UInt8} (h : Bld m bp v l) {fp : List Nat} (hu : Upd fp m m') (h1 : bp ∉ fp) (h2 : ∀ b ∈ blkOf v, b ∉ fp) : Bld m' bp v l := by
  obtain ⟨a, h3, h4⟩ := h.blk
  exact ⟨⟨a, by rw [hu.same bp h.lt h1]; exact h3, h4⟩, h.buf.upd hu h2, h.out, Nat.lt_of_lt_of_le h.lt hu.next⟩
theorem Bld.keep0 {m m' : Mem} {bp : Nat} {v : Value} {l : List UInt8} (h : Bld m bp v l) (hu : Upd [] m m') : Bld m' bp v l := h.keep hu (by simp) (fun b _ => by simp)
theorem Bld.new (m : Mem) : Bld (m.add ⟨.cells [.pointer none, .slice none 0 0] 41, false, none⟩) m.next (.slice none 0 0) [] :=
  ⟨⟨_, Mem.get_add_self .., .inl rfl⟩, TAp.nil _, by simp [blkOf], by simp⟩

theorem bfield (bp k : Nat) : runFieldAddr k (.pointer (some ⟨bp, 0, none⟩)) = some (.pointer (some ⟨bp, 0 + k, none⟩)) := rfl
theorem bnil (bp : Nat) : runNilck (.pointer (some ⟨bp, 0, none⟩)) = some (.pointer (some ⟨bp, 0, none⟩)) := rfl

theorem copyCheck_ok {m : Mem} {bp : Nat} {v : Value} {l : List UInt8} (h : Bld m bp v l) : W (Call S1 tab 30 [.pointer (some ⟨bp, 0, none⟩)] m) fun r m' => m'.get bp = some ⟨.cells [.pointer (some ⟨bp, 0, none⟩), v] 41, false, none⟩ ∧ Upd [bp] m m' := by
  obtain ⟨a, hg, ha⟩ := h.blk
  rw [C30]
  rcases ha with rfl | rfl
  · have e1 : runEqNil .ptr false (.pointer none) (.pointer none) = some (.bool true) := by rfl
    have e2 : runP2U (.pointer (some ⟨bp, 0, none⟩)) m = some (.pointer (some ⟨bp, 0, none⟩)) := by simp [runP2U, cellsAt_of_get hg]
    have e3 : runU2P 41 2 (.pointer (some ⟨bp, 0, none⟩)) m = some (.pointer (some ⟨bp, 0, none⟩)) := by simp [runU2P, hg]
    simp -implicitDefEqProofs only [st0, newVal, reduceIte, bfield, bnil, load_at hg (show [Value.pointer none, v][0 + 0]? = some (.pointer none) from rfl), e1, e2, e3]
    refine W.bindO (store_at hg (by simp) rfl rfl) ?_
    exact W_some.2 ⟨Mem.get_put_self .., Upd.put _ _ (by simp)⟩
  · have e1 : runEqNil .ptr false (.pointer (some ⟨bp, 0, none⟩)) (.pointer none) = some (.bool false) := by rfl
    have e2 : runEqPtr true (.pointer (some ⟨bp, 0, none⟩)) (.pointer (some ⟨bp, 0, none⟩)) m = some (.bool false) := by simp [runEqPtr]
    simp -implicitDefEqProofs only [st0, newVal, reduceIte, bfield, bnil, load_at hg (show [Value.pointer (some ⟨bp, 0, none⟩), v][0 + 0]? = some (.pointer (some ⟨bp, 0, none⟩)) from rfl), e1, e2]
    exact ⟨hg, Upd.refl _ _⟩

/-- The buffer is grown and put back. -/
theorem put_back {m m1 m2 : Mem} {bp : Nat} {v v' : Value} {l k : List UInt8} (h : Bld m bp v l) (hg : m1.get bp = some ⟨.cells [.pointer (some ⟨bp, 0, none⟩), v] 41, false, none⟩) (hu : Upd [bp] m m1)
    (q1 : TAp encB 5 m2 v' (l ++ k)) (q2 : Upd (blkOf v) m1 m2) (q3 : ∀ b ∈ blkOf v', b ∈ blkOf v ∨ m1.next ≤ b) :
    ∃ m3, runStore 1 (.pointer (some ⟨bp, 0 + 1, none⟩)) v' m2 = some m3 ∧ Bld m3 bp v' (l ++ k) ∧ BSt bp v m v' m3 := by
  have hlt := h.lt
  have hg2 : m2.get bp = some ⟨.cells [.pointer (some ⟨bp, 0, none⟩), v] 41, false, none⟩ := by rw [q2.same _ (by have := hu.next; omega) h.out]; exact hg
  refine ⟨_, store_at hg2 (by simp) q1.one.1 q1.one.2, ⟨⟨_, Mem.get_put_self .., .inr rfl⟩, ?_, ?_, ?_⟩, ⟨?_, ?_⟩⟩
  · refine q1.upd (Upd.put (fp := [bp]) _ _ (by simp)) (fun b hb hm => ?_)
    simp at hm; subst hm
    rcases q3 _ hb with q | q
    · exact h.out q
    · have := hu.next; omega
  · intro hb
    rcases q3 _ hb with q | q
    · exact h.out q
    · have := hu.next; omega
  · have := hu.next; have := q2.next; simp; omega
  · have u1 : Upd (bp :: blkOf v) m m2 := (hu.mono (fun b hb _ => by simp at hb; simp [hb])).trans (q2.mono (fun b hb _ => List.mem_cons_of_mem _ hb))
    exact u1.put' _ (.inl (List.mem_cons_self ..))
  · intro c hc
    rcases q3 c hc with q | q
    · exact .inl q
    · exact .inr (Nat.le_trans hu.next q)

theorem wbyte_ok {m : Mem} {bp : Nat} {v : Value} {l : List UInt8} (b : UInt8) (h : Bld m bp v l) (hl : l.length ≤ 2 ^ 40) :
    W (Call S1 tab 16 [.pointer (some ⟨bp, 0, none⟩), .int .u8 (b.toNat : Int)] m) fun r m' => r = .nilIface ∧ ∃ v', Bld m' bp v' (l ++ [b]) ∧ BSt bp v m v' m' := by
  rw [C16]
  refine W.bind (copyCheck_ok h) fun r m1 ⟨hg, hu⟩ => ?_
  simp -implicitDefEqProofs only [st0, newVal, reduceIte, bfield, bnil, load_at hg (show [Value.pointer (some ⟨bp, 0, none⟩), v][0 + 1]? = some v from rfl), afill_b]
  have h1 : TAp encB 5 m1 v l := h.buf.upd hu (fun c hc hm => by simp at hm; subst hm; exact h.out hc)
  refine app_new (E := encB) [b] (by decide) h1 (by simp; omega) fun v' m2 q1 q2 q3 => ?_
  obtain ⟨m3, r1, r2, r3⟩ := put_back h hg hu q1 q2 q3
  simp -implicitDefEqProofs only [st0, newVal, reduceIte, bfield, bnil, r1]
  exact ⟨by trivial, v', r2, r3⟩

theorem wstr_ok {m : Mem} {bp : Nat} {v : Value} {l : List UInt8} (s : List UInt8) (h : Bld m bp v l) (hl : l.length + s.length ≤ 2 ^ 40) :
    W (Call S1 tab 14 [.pointer (some ⟨bp, 0, none⟩), str s] m) fun r m' => ∃ v', Bld m' bp v' (l ++ s) ∧ BSt bp v m v' m' := by
  rw [C14]
  refine W.bind (copyCheck_ok h) fun r m1 ⟨hg, hu⟩ => ?_
  simp -implicitDefEqProofs only [st0, newVal, reduceIte, bfield, bnil, load_at hg (show [Value.pointer (some ⟨bp, 0, none⟩), v][0 + 1]? = some v from rfl)]
  have h1 : TAp encB 5 m1 v l := h.buf.upd hu (fun c hc hm => by simp at hm; subst hm; exact h.out hc)
  refine app_src (E := encB) s (by decide) h1 (src_str _ _) (by omega) fun v' m2 q1 q2 q3 => ?_
  obtain ⟨m3, r1, r2, r3⟩ := put_back h hg hu q1 q2 q3
  simp -implicitDefEqProofs only [st0, newVal, reduceIte, bfield, bnil, r1, len_str]
  exact ⟨v', r2, r3⟩

theorem bstr_ok {m : Mem} {bp : Nat} {v : Value} {l : List UInt8} (h : Bld m bp v l) (hl : l.length ≤ 2 ^ 40) (hne : l ≠ [] ∨ v = .slice none 0 0) :
    W (Call S1 tab 17 [.pointer (some ⟨bp, 0, none⟩)] m) fun r m' => r = str l ∧ Upd (bp :: blkOf v) m m' := by
  obtain ⟨a, hg, ha⟩ := h.blk
  rw [C17]
  simp -implicitDefEqProofs only [st0, newVal, reduceIte, bfield, bnil, load_at hg (show [a, v][0 + 1]? = some v from rfl), h.buf.tsl.len]
  rcases h.buf with ⟨rfl, rfl⟩ | ⟨b, cap, rest, lo, rfl, hb, hgb, hlo, hr, hc⟩
  · have e1 : runSliceData (.slice none 0 0) = some (.pointer none) := rfl
    have e2 : runUnsafeStr 5 (.pointer none) (.int .i64 (([] : List UInt8).length : Int)) m = some (str [], m) := by rfl
    simp -implicitDefEqProofs only [st0, newVal, reduceIte, e1, e2]
    exact ⟨by trivial, Upd.refl _ _⟩
  · have hl0 : l ≠ [] := by
      rcases hne with h | h
      · exact h
      · cases h
    have hl1 : 0 < l.length := by
      rcases Nat.eq_zero_or_pos l.length with h | h
      · exact absurd (List.length_eq_zero_iff.1 h) hl0
      · exact h
    have e1 : runSliceData (.slice (some ⟨b, 0, none⟩) l.length cap) = some (.pointer (some ⟨b, 0, none⟩)) := by
      have : ¬ cap = 0 := by omega
      simp [runSliceData, this]
    have e2 : runUnsafeStr 5 (.pointer (some ⟨b, 0, none⟩)) (.int .i64 (l.length : Int)) m = some (str l, m.put b ⟨.cells (encB.flat l ++ rest) 5, true, lo⟩) := by
      have ho : m.ownAt b = some (encB.flat l ++ rest, 5, lo) := by simp [Mem.ownAt, hgb]
      have hz : ¬ ((l.length : Int) = 0) := by omega
      have hfl := encB.flat_len l
      rw [encB_size, Nat.mul_one] at hfl
      have ht : ((encB.flat l ++ rest).drop 0).take l.length = encB.flat l := by rw [List.drop_zero, ← hfl, List.take_left']; rfl
      simp only [runUnsafeStr, if_neg hz, ho, Option.bind_some, Int.toNat_natCast, ht, strOf_flat, Option.map_some]
      rw [if_pos ⟨by trivial, by omega, by omega, by rw [List.length_append, hfl]; omega⟩]
    simp -implicitDefEqProofs only [st0, newVal, reduceIte, e1, e2]
    exact ⟨by trivial, Upd.put _ _ (by simp [blkOf])⟩
end Go.Fx.Tryz
/- The Ops' names; a value's word; strings.Join. -/
namespace Go.Fx.Tryz
open Go Go.Fx
set_option linter.unusedSimpArgs false
set_option linter.unusedVariables false

/- names -/
def opNames : List (List UInt8) := [[], [99,111,110,115,116], [109,111,118,101], [97,100,100], [115,117,98], [109,117,108], [99,97,116], [108,101,115,115], [115,97,109,101], [106,117,109,112], [117,110,108,101,115,115], [108,111,97,100], [115,116,111,114,101], [100,114,111,112], [101,109,105,116], [115,108,101,101,112], [99,104,105,108,100], [115,116,101,112], [100,111,110,101], [102,97,105,108]]
def nameP (op : Int) : List UInt8 := if op < 0 ∨ 20 ≤ op then [] else (opNames[op.toNat]?).getD []
theorem names_ok (m : Mem) : Call S1 tab 20 [] m = some (.slice (some ⟨m.next, 0, none⟩) 20 20, m.add ⟨.cells (encS.flat opNames) 9, false, none⟩) := by
  rw [C20]
  rfl
theorem idx_s {m : Mem} {v : Value} {ws : List (List UInt8)} (h : TSl encS m v ws) {i : Nat} (hi : i < ws.length) : ∃ p, runIndexS 1 v (.int .i64 (i : Int)) = some p ∧ runLoad1 p m = some (str ws[i]) := by
  obtain ⟨p, p1, _, p2⟩ := h.index .i64 (List.getElem?_eq_getElem hi)
  exact ⟨p, p1, p2 _ rfl⟩
theorem name_ok (op : Int) (m : Mem) : W (Call S1 tab 8 [.int .i64 op] m) fun r m' => r = str (nameP op) ∧ Upd [] m m' := by
  rw [C8, names_ok]
  have hT := (TAp.fresh (E := encS) (e := 9) m opNames).tsl
  have hu : Upd [] m (m.add ⟨.cells (encS.flat opNames) 9, false, none⟩) := Upd.add _ _ _
  have hlen : runLenSlice (.slice (some ⟨m.next, 0, none⟩) 20 20) = some (.int .i64 20) := rfl
  have hlen' : opNames.length = 20 := rfl
  unfold nameP
  by_cases h0 : op < 0
  · simp -implicitDefEqProofs only [st0, newVal, reduceIte, h0, true_or]
    exact ⟨by trivial, hu⟩
  · by_cases h1 : 20 ≤ op
    · simp -implicitDefEqProofs only [st0, newVal, reduceIte, h0, h1, or_true, hlen]
      exact ⟨by trivial, hu⟩
    · obtain ⟨k, rfl⟩ := Int.eq_ofNat_of_zero_le (Int.not_lt.1 h0)
      obtain ⟨p, p1, p2⟩ := idx_s hT (i := k) (by omega)
      have p1 : runIndexS 1 (.slice (some ⟨m.next, 0, none⟩) 20 20) (.int .i64 (k : Int)) = some p := p1
      simp -implicitDefEqProofs only [st0, newVal, reduceIte, h0, h1, or_self, hlen, p1, p2]
      refine ⟨?_, hu⟩
      rw [Int.toNat_natCast, List.getElem?_eq_getElem (by omega)]
      rfl

/- numbers -/
theorem itoa_ok {m : Mem} (hg : Globs m) {n : Int} (hn : I64 n) : Call S1 tab 32 [.int .i64 n] m = some (str (Lib.itoa n), m) := by
  refine Call_hook ?_
  unfold S1
  rw [if_neg (by decide), if_pos rfl]
  unfold aItoa
  simp only [str]
  rw [if_pos ⟨hg.pow, hn.1, hn.2⟩]
theorem fmt_ok {m : Mem} (hg : Globs m) {n : Int} (hn : I64 n) : Call S1 tab 55 [.int .i64 n, .int .i64 10] m = some (str (Lib.itoa n), m) := by
  refine Call_hook ?_
  unfold S1
  rw [if_pos rfl]
  unfold aFmt
  simp only [str]
  rw [if_pos ⟨hg.pow, hn.1, hn.2⟩]
theorem nDigits_le : ∀ (k u : Nat), u < 10 ^ (k + 1) → Lib.nDigits u ≤ k + 1
  | 0, u, h => by rw [Lib.nDigits_small (by simpa using h)]; omega
  | k + 1, u, h => by
    by_cases h1 : u < 10
    · rw [Lib.nDigits_small h1]; omega
    · rw [Lib.nDigits_big h1]
      have := nDigits_le k (u / 10) (by rw [Nat.pow_succ] at h; omega)
      omega
theorem itoa_len {n : Int} (h : I64 n) : (Lib.itoa n).length ≤ 21 := by
  unfold Lib.itoa
  have h1 := h.1
  have h2 := h.2
  split
  · simp only [List.length_cons, Lib.decDigits_length]
    have := nDigits_le 19 n.natAbs (by omega)
    omega
  · rw [Lib.decDigits_length]
    have := nDigits_le 19 n.toNat (by omega)
    omega

/- a value's word -/
def hexTab : List UInt8 := [48, 49, 50, 51, 52, 53, 54, 55, 56, 57, 97, 98, 99, 100, 101, 102]
def hexd (k : Nat) : UInt8 := (hexTab[k]?).getD 0
def hexP : List UInt8 → List UInt8
  | [] => []
  | c :: l => hexd (c.toNat / 16) :: hexd (c.toNat % 16) :: hexP l
theorem hexP_length : ∀ l, (hexP l).length = 2 * l.length
  | [] => rfl
  | c :: l => by simp only [hexP, List.length_cons, hexP_length l]; omega
/-- A value's word. -/
def showP (v : Va) : List UInt8 := if v.k = 1 then Lib.itoa v.n else 39 :: hexP v.s

theorem hex_idx {k : Nat} (h : k < 16) : runIndexStr (.string ⟨#[48, 49, 50, 51, 52, 53, 54, 55, 56, 57, 97, 98, 99, 100, 101, 102]⟩) (.int .u8 (k : Int)) = some (.int .u8 ((hexd k).toNat : Int)) := by
  have : ∀ k : Fin 16, runIndexStr (.string ⟨#[48, 49, 50, 51, 52, 53, 54, 55, 56, 57, 97, 98, 99, 100, 101, 102]⟩) (.int .u8 ((k.val : Nat) : Int)) = some (.int .u8 ((hexd k.val).toNat : Int)) := by
    intro k
    have hk := k.isLt
    match k with
    | ⟨0, _⟩ | ⟨1, _⟩ | ⟨2, _⟩ | ⟨3, _⟩ | ⟨4, _⟩ | ⟨5, _⟩ | ⟨6, _⟩ | ⟨7, _⟩ | ⟨8, _⟩ | ⟨9, _⟩ | ⟨10, _⟩ | ⟨11, _⟩ | ⟨12, _⟩ | ⟨13, _⟩ | ⟨14, _⟩ | ⟨15, _⟩ => rfl
    | ⟨n + 16, h⟩ => exact absurd h (by omega)
  exact this ⟨k, h⟩
theorem shr4 (c : UInt8) : arith .shr (.int .u8 (c.toNat : Int)) (.int .u64 4) = some (.int .u8 ((c.toNat / 16 : Nat) : Int)) := by
  have h1 : ¬ ((4 : Int) < 0) := by omega
  have h2 : min (4 : Int).toNat IntKind.u8.bits = 4 := rfl
  simp only [arith, if_neg h1, h2, fdiv_pow (c.toNat : Int) (Int.natCast_nonneg _)]
  rfl
theorem and15 (c : UInt8) : arith .and (.int .u8 (c.toNat : Int)) (.int .u8 15) = some (.int .u8 ((c.toNat % 16 : Nat) : Int)) := by
  have : ∀ k : Fin 256, arith .and (.int .u8 ((k.val : Nat) : Int)) (.int .u8 15) = some (.int .u8 ((k.val % 16 : Nat) : Int)) := by
    intro k
    show (ibits .and .u8 (k.val : Int) 15).map (Value.int .u8) = _
    have h : ∀ k : Fin 256, ibits .and .u8 ((k.val : Nat) : Int) 15 = some ((k.val % 16 : Nat) : Int) := by decide +kernel
    rw [h k]; rfl
  have hc : c.toNat < 256 := by have := c.toNat_lt; omega
  exact this ⟨c.toNat, hc⟩

theorem show_loop {s : List UInt8} {bp : Nat} {sv : Value} (hs : s.length ≤ 2 ^ 30) : ∀ (d i : Nat) (m : Mem) (v : Value) (l : List UInt8), i + d = s.length → (∀ m', Upd (bp :: blkOf v) m m' → TSl encB m' sv s) → Bld m bp v l → l ≠ [] → l.length ≤ 2 * i + 1 →
    W (P33_0 (.pointer (some ⟨bp, 0, none⟩)) sv (.int .i64 (s.length : Int)) (.int .i64 (i : Int)) m) fun r m' => r = str (l ++ hexP (s.drop i)) ∧ Upd (bp :: blkOf v) m m' := by
  intro d
  induction d with
  | zero =>
    intro i m v l hd hT h hne hl
    obtain rfl : i = s.length := by omega
    rw [P33_0_eq]
    simp -implicitDefEqProofs only [st0, newVal, reduceIte, Int.lt_irrefl]
    refine W.bind (bstr_ok h (by omega) (.inl hne)) fun r m' ⟨h1, h2⟩ => ?_
    exact W_some.2 ⟨by rw [h1]; simp [hexP], h2⟩
  | succ d ih =>
    intro i m v l hd hT h hne hl
    have hi : i < s.length := by omega
    have hlt : (i : Int) < (s.length : Int) := by omega
    obtain ⟨p, p1, _, p2⟩ := (hT m (Upd.refl _ _)).index .i64 (List.getElem?_eq_getElem hi)
    have p1 : runIndexS 1 sv (.int .i64 (i : Int)) = some p := p1
    have p2 : runLoad1 p m = some (.int .u8 ((s[i]).toNat : Int)) := p2 _ rfl
    have hdrop : s.drop i = s[i] :: s.drop (i + 1) := List.drop_eq_getElem_cons hi
    rw [hdrop]
    generalize s[i] = c at p2
    have hc : c.toNat < 256 := by have := c.toNat_lt; omega
    rw [P33_0_eq]
    simp -implicitDefEqProofs only [st0, newVal, reduceIte, hlt, p1, p2, shr4, and15, hex_idx (show c.toNat / 16 < 16 by omega), hex_idx (show c.toNat % 16 < 16 by omega)]
    refine W.bind (wbyte_ok _ h (by omega)) fun r m1 ⟨_, v1, b1, s1⟩ => ?_
    simp -implicitDefEqProofs only [st0, newVal, reduceIte]
    refine W.bind (wbyte_ok _ b1 (by simp; omega)) fun r m2 ⟨_, v2, b2, s2⟩ => ?_
    simp -implicitDefEqProofs only [st0, newVal, reduceIte, i64_succ (show i < 2 ^ 62 by omega)]
    have s12 := s1.trans s2
    have hown : ∀ b ∈ bp :: blkOf v2, b ∈ bp :: blkOf v ∨ m.next ≤ b := fun b hb => by
      rcases List.mem_cons.1 hb with rfl | hb
      · exact .inl (List.mem_cons_self ..)
      · rcases s12.own b hb with q | q
        · exact .inl (List.mem_cons_of_mem _ q)
        · exact .inr q
    refine (ih (i + 1) m2 v2 _ (by omega) (fun m' h' => hT m' (s12.upd.then' h' hown)) b2 (by simp) (by simp; omega)).mono fun r m' ⟨q1, q2⟩ => ⟨by rw [q1]; simp [hexP], s12.upd.then' q2 hown⟩

/-- text.show. -/
theorem show_ok {v : Va} (hn : I64 v.n) (hs : v.s.length ≤ 2 ^ 30) {m : Mem} (hg : Globs m) : W (Call S1 tab 33 [.agg (encVa.cells v).toArray] m) fun r m' => r = str (showP v) ∧ Upd [] m m' := by
  rw [C33]
  refine W_nw.2 ?_
  rw [cells_agg]
  have f : ∀ k, runFieldAddr k (.pointer (some ⟨m.next, 0, none⟩)) = some (.pointer (some ⟨m.next, 0 + k, none⟩)) := fun k => rfl
  generalize hm1 : m.add ⟨.cells (encVa.cells v) 35, false, none⟩ = m1
  have hu1 : Upd [] m m1 := hm1 ▸ Upd.add _ _ _
  have hn1 : m1.next = m.next + 1 := by rw [← hm1]; rfl
  have hg1 : m1.get m.next = some ⟨.cells (encVa.cells v) 35, false, none⟩ := by rw [← hm1]; exact Mem.get_add_self ..
  have l0 : runLoad1 (.pointer (some ⟨m.next, 0 + 0, none⟩)) m1 = some (.int .i64 v.k) := load_at hg1 rfl
  have l1 : runLoad1 (.pointer (some ⟨m.next, 0 + 1, none⟩)) m1 = some (.int .i64 v.n) := load_at hg1 rfl
  unfold showP
  by_cases hk : v.k = 1
  · simp -implicitDefEqProofs only [st0, newVal, reduceIte, f, l0, l1, hk, fmt_ok (hg.upd0 hu1) hn]
    exact ⟨trivial, hu1⟩
  · simp -implicitDefEqProofs only [st0, newVal, reduceIte, f, l0, hk]
    have hb := Bld.new m1
    have hu2 : Upd [] m1 (m1.add ⟨.cells [.pointer none, .slice none 0 0] 41, false, none⟩) := Upd.add _ _ _
    generalize m1.add ⟨.cells [.pointer none, .slice none 0 0] 41, false, none⟩ = m2 at hb hu2
    refine W.bind (wbyte_ok 39 hb (by simp)) fun r m3 ⟨_, v3, b3, s3⟩ => ?_
    have hu3 := hu2.then' s3.upd (fun b hb => by simp [blkOf] at hb; exact .inr (by omega))
    have hg3 : m3.get m.next = some ⟨.cells (encVa.cells v) 35, false, none⟩ := by rw [hu3.same _ (by omega) (by simp)]; exact hg1
    have l3 : runLoad1 (.pointer (some ⟨m.next, 0 + 2, none⟩)) m3 = some (str v.s) := load_at hg3 rfl
    have e4 : runS2B 5 (str v.s) m3 = some (.slice (some ⟨m3.next, 0, none⟩) v.s.length v.s.length, m3.add ⟨.cells (encB.flat v.s) 5, false, some 1⟩) := by
      have : encB.flat v.s = v.s.map fun b => Value.int .u8 b.toNat := by
        simp only [Enc.flat, encB]
        induction v.s with
        | nil => rfl
        | cons a l ih => simp at ih ⊢; exact ih
      simp only [runS2B, str, ByteArray.size, List.size_toArray, this]
    have hT : TAp encB 5 (m3.add ⟨.cells (encB.flat v.s) 5, false, some 1⟩) (.slice (some ⟨m3.next, 0, none⟩) v.s.length v.s.length) v.s :=
      .inr ⟨m3.next, v.s.length, [], some 1, rfl, by simp, by rw [Mem.get_add_self]; simp, .inr rfl, by simp, Nat.le_refl _⟩
    have hu4 : Upd [] m3 (m3.add ⟨.cells (encB.flat v.s) 5, false, some 1⟩) := Upd.add _ _ _
    simp -implicitDefEqProofs only [st0, newVal, reduceIte, f, l3, e4, hT.tsl.len]
    have hbl := b3.buf.lt
    have hb4 := b3.keep0 hu4
    refine (show_loop (s := v.s) hs v.s.length 0 _ v3 _ (by omega) (fun m' h' => hT.tsl.upd h' (fun b hb => ?_)) hb4 (by simp) (by simp)).mono fun r m' ⟨q1, q2⟩ => ⟨by rw [q1]; simp, ?_⟩
    · simp [blkOf] at hb
      subst hb
      refine ⟨by simp, fun hm => ?_⟩
      rcases List.mem_cons.1 hm with h | h
      · have := b3.lt; omega
      · have := hbl _ h; omega
    · refine (hu1.then0 (hu3.then0 hu4)).then' q2 (fun b hb => ?_)
      rcases List.mem_cons.1 hb with h | h
      · subst h; exact .inr (by have := hu1.next; omega)
      · rcases s3.own b h with q | q
        · simp [blkOf] at q
        · exact .inr (by have := hu1.next; have := hu2.next; omega)
end Go.Fx.Tryz
/- strings.Join; an instruction's line; text.Write. -/
namespace Go.Fx.Tryz
open Go Go.Fx
set_option linter.unusedSimpArgs false
set_option linter.unusedVariables false

theorem okOne {ms : List Mem} {q : Req} {v : Value} {k : Nat} {M : Mem} (hM : ms[k]? = some M) (h : q.run M = some v) : okReq ms (q, v, k, k) = true := by
  unfold okReq
  have e : k + 1 - k = 1 := by omega
  simp only [e, List.range_one, List.all_cons, List.all_nil, Bool.and_true, Nat.add_zero, hM, h]
  exact veq_refl v

/-- (*Builder).Grow of a new builder. -/
theorem grow_ok {m : Mem} {bp n : Nat} (h : Bld m bp (.slice none 0 0) []) (hn1 : 1 ≤ n) (hn : n ≤ 2 ^ 40) :
    W (Call S1 tab 56 [.pointer (some ⟨bp, 0, none⟩), .int .i64 (n : Int)] m) fun r m' => ∃ v', Bld m' bp v' [] ∧ BSt bp (.slice none 0 0) m v' m' := by
  rw [C56]
  refine W.bind (copyCheck_ok h) fun r m1 ⟨hg, hu⟩ => ?_
  have hlt := h.lt
  have h0 : ¬ ((n : Int) < 0) := by omega
  have h1 : (0 : Int) < (n : Int) := by omega
  have l1 := load_at hg (show [Value.pointer (some ⟨bp, 0, none⟩), .slice none 0 0][0 + 1]? = some (.slice none 0 0) from rfl)
  have c1 : runCap (.slice none 0 0) m1 = some (.int .i64 0) := rfl
  have c2 : runLenSlice (.slice none 0 0) = some (.int .i64 0) := rfl
  have c3 : arith .sub (.int .i64 0) (.int .i64 0) = some (.int .i64 0) := by kernel_rfl
  have c4 : arith .mul (.int .i64 2) (.int .i64 0) = some (.int .i64 0) := by kernel_rfl
  have c5 : arith .add (.int .i64 0) (.int .i64 (n : Int)) = some (.int .i64 (n : Int)) := by rw [i64_add (by omega) (by omega)]; simp
  have c6 : runNoZero 5 (.int .i64 (n : Int)) m1 = some (.slice (some ⟨m1.next, 0, none⟩) n n, m1.add ⟨.cells (List.replicate n junk) 5, false, some 1⟩) := by
    simp only [runNoZero]
    rw [if_pos (by omega)]
    simp
  simp -implicitDefEqProofs only [st0, newVal, reduceIte, h0]
  rw [P56_0_eq]
  simp -implicitDefEqProofs only [st0, newVal, reduceIte, bfield, bnil, l1, c1, c2, c3, h1]
  rw [C73]
  simp -implicitDefEqProofs only [st0, newVal, reduceIte, bfield, bnil, l1, c1, c4, c5, c6]
  generalize hm2 : m1.add ⟨.cells (List.replicate n junk) 5, false, some 1⟩ = m2
  have hnx := hu.next
  have hg2 : m2.get bp = some ⟨.cells [.pointer (some ⟨bp, 0, none⟩), .slice none 0 0] 41, false, none⟩ := by rw [← hm2, Mem.get_add_other _ _ (by omega)]; exact hg
  have l2 := load_at hg2 (show [Value.pointer (some ⟨bp, 0, none⟩), .slice none 0 0][0 + 1]? = some (.slice none 0 0) from rfl)
  have c7 : runSliceS 1 (.slice (some ⟨m1.next, 0, none⟩) n n) none (some (.int .i64 0)) m2 = some (.slice (some ⟨m1.next, 0, none⟩) 0 n) := by
    have hb : boundsV n n none (some (.int .i64 0)) = some (0, 0) := by
      have : (0 : Int) ≤ 0 ∧ (0 : Int) ≤ (n : Int) := by omega
      simp only [boundsV, boundV, if_pos this, Option.bind_some, Option.map_some]
      rfl
    simp only [runSliceS, hb, Option.bind_some]
    rw [if_pos (by simp)]
    simp
  have c8 : runSrc 1 (.slice none 0 0) m2 = some (0, []) := (TSl.nil (E := encB) m2).src
  have c9 : runCopy 1 (.slice (some ⟨m1.next, 0, none⟩) 0 n) 0 [] m2 = some (.int .i64 0, m2) := rfl
  simp -implicitDefEqProofs only [st0, newVal, reduceIte, bfield, bnil, l2, c2, c7]
  refine W_bind.2 (W_chk.2 ⟨?_, ?_⟩)
  · simp only [List.all_cons, List.all_nil, Bool.and_true, Bool.and_eq_true]
    refine ⟨okOne rfl l1, okOne rfl c1, okLoad (fun M hM => ?_) (by simp), okOne rfl c7⟩
    simp only [List.mem_cons, List.not_mem_nil, or_false] at hM
    rcases hM with rfl | rfl
    · exact l1
    · exact l2
  · have hT : TAp encB 5 m2 (.slice (some ⟨m1.next, 0, none⟩) 0 n) ([] ++ []) := .inr ⟨m1.next, n, List.replicate n junk, some 1, rfl, by rw [← hm2]; simp, by rw [← hm2, Mem.get_add_self]; rfl, .inr rfl, by simp [encB], by simp⟩
    obtain ⟨m3, r1, r2, r3⟩ := put_back h hg hu hT (hm2 ▸ Upd.add _ _ _) (fun b hb => by simp [blkOf] at hb; exact .inr (by omega))
    simp -implicitDefEqProofs only [st0, newVal, reduceIte, c8, c9, bfield, bnil, l2, r1]
    exact ⟨_, r2, r3⟩

/- strings.Join -/
def sepP (ws : List (List UInt8)) : List UInt8 := ws.flatMap fun w => 32 :: w
def joinP : List (List UInt8) → List UInt8
  | [] => []
  | w :: r => w ++ sepP r
def total (ws : List (List UInt8)) : Nat := (ws.map List.length).sum
theorem sepP_cons (w : List UInt8) (r : List (List UInt8)) : sepP (w :: r) = 32 :: (w ++ sepP r) := by simp [sepP]
theorem sepP_len : ∀ ws, (sepP ws).length = total ws + ws.length
  | [] => rfl
  | w :: r => by
    rw [sepP_cons]
    have := sepP_len r
    simp only [total, List.length_cons, List.length_append, List.map_cons, List.sum_cons] at this ⊢
    omega

theorem join_len {ws : List (List UInt8)} {sv sp : Value} {m : Mem} (hT : TSl encS m sv ws) (hk : ws.length ≤ 2 ^ 30) : ∀ (d i n : Nat), i + d = ws.length → n + total (ws.drop i) ≤ 2 ^ 40 →
    P34_2 sv sp (.int .i64 (n : Int)) sv (.int .i64 (ws.length : Int)) (.int .i64 (i : Int)) m = P34_4 sv sp (.int .i64 ((n + total (ws.drop i) : Nat) : Int)) m := by
  intro d
  induction d with
  | zero =>
    intro i n hd hn
    obtain rfl : i = ws.length := by omega
    rw [P34_2_eq]
    simp -implicitDefEqProofs only [st0, newVal, reduceIte, Int.lt_irrefl]
    simp [total]
  | succ d ih =>
    intro i n hd hn
    have hi : i < ws.length := by omega
    have hlt : (i : Int) < (ws.length : Int) := by omega
    obtain ⟨p, p1, p2⟩ := idx_s hT hi
    have hdrop : ws.drop i = ws[i] :: ws.drop (i + 1) := List.drop_eq_getElem_cons hi
    rw [hdrop] at hn ⊢
    generalize ws[i] = w at p2 hn
    have ht : total (w :: ws.drop (i + 1)) = w.length + total (ws.drop (i + 1)) := by simp [total]
    rw [ht] at hn ⊢
    have e1 : arith .sub (.int .i64 9223372036854775807) (.int .i64 (n : Int)) = some (.int .i64 (9223372036854775807 - (n : Int))) := i64_sub (by omega) (by omega)
    have e2 : ¬ (9223372036854775807 - (n : Int) < (w.length : Int)) := by omega
    rw [P34_2_eq]
    simp -implicitDefEqProofs only [st0, newVal, reduceIte, hlt, p1, p2, len_str, e1, e2]
    rw [P34_3_eq]
    simp -implicitDefEqProofs only [st0, newVal, reduceIte, len_str, i64_addN (show n + w.length < 2 ^ 62 by omega), i64_succ (show i < 2 ^ 62 by omega)]
    rw [ih (i + 1) (n + w.length) (by omega) (by omega), Nat.add_assoc]

theorem join_loop {ws : List (List UInt8)} {bp : Nat} {sv : Value} (hk : ws.length ≤ 2 ^ 30) : ∀ (d i : Nat) (m : Mem) (v : Value) (l : List UInt8), i + d = ws.length → (∀ m', Upd (bp :: blkOf v) m m' → TSl encS m' sv ws) → Bld m bp v l → (l ≠ [] ∨ i < ws.length) → l.length + (sepP (ws.drop i)).length ≤ 2 ^ 40 →
    W (P34_5 (.string ⟨#[32]⟩) (.pointer (some ⟨bp, 0, none⟩)) sv (.int .i64 (ws.length : Int)) (.int .i64 (i : Int)) m) fun r m' => r = str (l ++ sepP (ws.drop i)) ∧ Upd (bp :: blkOf v) m m' := by
  intro d
  induction d with
  | zero =>
    intro i m v l hd hT h hne hl
    obtain rfl : i = ws.length := by omega
    rw [P34_5_eq]
    simp -implicitDefEqProofs only [st0, newVal, reduceIte, Int.lt_irrefl]
    have hne' : l ≠ [] := hne.elim id (fun h => absurd h (Nat.lt_irrefl _))
    refine W.bind (bstr_ok h (by omega) (.inl hne')) fun r m' ⟨h1, h2⟩ => ?_
    exact W_some.2 ⟨by rw [h1]; simp [sepP], h2⟩
  | succ d ih =>
    intro i m v l hd hT h hne hl
    have hi : i < ws.length := by omega
    have hlt : (i : Int) < (ws.length : Int) := by omega
    obtain ⟨p, p1, p2⟩ := idx_s (hT m (Upd.refl _ _)) hi
    have hdrop : ws.drop i = ws[i] :: ws.drop (i + 1) := List.drop_eq_getElem_cons hi
    rw [hdrop] at hl ⊢
    generalize ws[i] = w at p2 hl
    rw [sepP_cons] at hl ⊢
    simp only [List.length_cons, List.length_append] at hl
    rw [P34_5_eq]
    simp -implicitDefEqProofs only [st0, newVal, reduceIte, hlt, p1, p2]
    refine W.bind (wstr_ok [32] h (by simp; omega)) fun r m1 ⟨v1, b1, s1⟩ => ?_
    simp -implicitDefEqProofs only [st0, newVal, reduceIte]
    refine W.bind (wstr_ok w b1 (by simp; omega)) fun r m2 ⟨v2, b2, s2⟩ => ?_
    simp -implicitDefEqProofs only [st0, newVal, reduceIte, i64_succ (show i < 2 ^ 62 by omega)]
    have s12 := s1.trans s2
    have hown : ∀ b ∈ bp :: blkOf v2, b ∈ bp :: blkOf v ∨ m.next ≤ b := fun b hb => by
      rcases List.mem_cons.1 hb with rfl | hb
      · exact .inl (List.mem_cons_self ..)
      · rcases s12.own b hb with q | q
        · exact .inl (List.mem_cons_of_mem _ q)
        · exact .inr q
    refine (ih (i + 1) m2 v2 _ (by omega) (fun m' h' => hT m' (s12.upd.then' h' hown)) b2 (.inl (by simp)) (by simp only [List.length_append, List.length_cons, List.length_nil]; omega)).mono fun r m' ⟨q1, q2⟩ => ⟨by rw [q1]; simp, s12.upd.then' q2 hown⟩

theorem quo_ok {k : Nat} (h1 : 1 ≤ k) (h8 : k ≤ 7) : ∃ q : Int, arith .quo (.int .i64 9223372036854775807) (.int .i64 (k : Int)) = some (.int .i64 q) ∧ 2 ≤ q := by
  match k, h1, h8 with
  | 1, _, _ | 2, _, _ | 3, _, _ | 4, _, _ | 5, _, _ | 6, _, _ | 7, _, _ => exact ⟨_, rfl, by decide⟩

/-- strings.Join with a blank, of few words. -/
theorem join_ok {ws : List (List UInt8)} {sv : Value} {m : Mem} (h : TAp encS 9 m sv ws) (hk : ws.length ≤ 8) (hl : total ws ≤ 2 ^ 39) :
    W (Call S1 tab 34 [sv, .string ⟨#[32]⟩] m) fun r m' => r = str (joinP ws) ∧ Upd [] m m' := by
  rw [C34]
  have hT := h.tsl
  match ws, h, hT, hk, hl with
  | [], h, hT, hk, hl =>
    simp -implicitDefEqProofs only [st0, newVal, reduceIte, hT.len, List.length_nil, show ((0 : Nat) : Int) = 0 from rfl]
    exact ⟨by trivial, Upd.refl _ _⟩
  | [w], h, hT, hk, hl =>
    obtain ⟨p, p1, p2⟩ := idx_s hT (i := 0) (by simp)
    have p1 : runIndexS 1 sv (.int .i64 0) = some p := p1
    simp -implicitDefEqProofs only [st0, newVal, reduceIte, hT.len, List.length_cons, List.length_nil, show (((0 + 1 : Nat) : Int) = 1) from rfl, show ¬ ((1 : Int) = 0) by decide, p1, p2]
    exact ⟨by simp [joinP, sepP], Upd.refl _ _⟩
  | w :: x :: r, h, hT, hk, hl =>
    generalize hws : w :: x :: r = ws at h hT hk hl
    have hk2 : 2 ≤ ws.length := by rw [← hws]; simp
    have e0 : ¬ ((ws.length : Int) = 0) := by omega
    have e1 : ¬ ((ws.length : Int) = 1) := by omega
    have e2 : arith .sub (.int .i64 (ws.length : Int)) (.int .i64 1) = some (.int .i64 ((ws.length - 1 : Nat) : Int)) := by
      rw [i64_sub (by omega) (by omega)]; congr 2; omega
    obtain ⟨q, e3, e4⟩ := quo_ok (k := ws.length - 1) (by omega) (by omega)
    have e5 : ¬ (q ≤ 1) := by omega
    have e6 : runLenStr (.string ⟨#[32]⟩) = some (.int .i64 1) := rfl
    have e7 : arith .mul (.int .i64 1) (.int .i64 ((ws.length - 1 : Nat) : Int)) = some (.int .i64 ((ws.length - 1 : Nat) : Int)) := by
      rw [ar_mul, wrap64 (by omega) (by omega)]; simp
    have e8 : arith .add (.int .i64 0) (.int .i64 ((ws.length - 1 : Nat) : Int)) = some (.int .i64 ((ws.length - 1 : Nat) : Int)) := by
      rw [i64_add (by omega) (by omega)]; simp
    simp -implicitDefEqProofs only [st0, newVal, reduceIte, hT.len, e0, e1, e2, e3, e5, e6, show (0 : Int) < 1 by decide]
    rw [P34_0_eq]
    simp -implicitDefEqProofs only [st0, newVal, reduceIte, hT.len, e2, e6, e7, e8]
    rw [P34_1_eq]
    simp -implicitDefEqProofs only [st0, newVal, reduceIte, hT.len]
    rw [show (Value.int .i64 0) = .int .i64 ((0 : Nat) : Int) from rfl, join_len hT (by omega) ws.length 0 (ws.length - 1) (by omega) (by rw [List.drop_zero]; omega), List.drop_zero]
    rw [P34_4_eq]
    refine W_nw.2 ?_
    have hb := Bld.new m
    have hu1 : Upd [] m (m.add ⟨.cells [.pointer none, .slice none 0 0] 41, false, none⟩) := Upd.add _ _ _
    generalize m.add ⟨.cells [.pointer none, .slice none 0 0] 41, false, none⟩ = m1 at hb hu1
    refine W.bind (grow_ok hb (by omega) (by omega)) fun r2 m2 ⟨v2, b2, s2⟩ => ?_
    have hu2 : Upd [] m m2 := hu1.then' s2.upd (fun b hb => by simp [blkOf] at hb; exact .inr (by omega))
    obtain ⟨p, p1, p2⟩ := idx_s (h.upd0 hu2).tsl (i := 0) (by omega)
    have p1 : runIndexS 1 sv (.int .i64 0) = some p := p1
    simp -implicitDefEqProofs only [st0, newVal, reduceIte, p1, p2]
    have hlw : (ws[0]'(by omega)).length + (sepP (ws.drop 1)).length ≤ 2 ^ 40 := by
      subst hws
      rw [sepP_len]
      simp only [total, List.getElem_cons_zero, List.drop_succ_cons, List.drop_zero, List.map_cons, List.sum_cons, List.length_cons] at hl hk ⊢
      omega
    refine W.bind (wstr_ok (ws[0]'(by omega)) b2 (by simp; omega)) fun r3 m3 ⟨v3, b3, s3⟩ => ?_
    have s23 := s2.trans s3
    have hu3 : Upd [] m m3 := hu1.then' s23.upd (fun b hb => by simp [blkOf] at hb; exact .inr (by omega))
    have h3 := h.upd0 hu3
    obtain ⟨sv', t1, t2, t3⟩ := h3.from (k := 1) (by omega)
    have t1 : runSliceS 1 sv (some (.int .i64 1)) none m3 = some sv' := t1 m3 (fun _ _ => rfl)
    have hown : ∀ b ∈ m.next :: blkOf v3, m.next ≤ b := fun b hb => by
      rcases List.mem_cons.1 hb with rfl | hb
      · exact Nat.le_refl _
      · rcases s23.own b hb with q | q
        · simp [blkOf] at q
        · exact Nat.le_trans hu1.next q
    simp -implicitDefEqProofs only [st0, newVal, reduceIte, t1, t2.len]
    refine (join_loop (ws := ws.drop 1) (by simp; omega) (ws.drop 1).length 0 m3 v3 _ (by omega) (fun m' h' => t2.upd h' (fun b hb => ?_)) b3 (.inr (by simp; omega)) (by rw [List.drop_zero, List.nil_append]; exact hlw)).mono fun r4 m4 ⟨q1, q2⟩ => ⟨?_, hu3.then' q2 (fun b hb => .inr (hown b hb))⟩
    · have := h.lt b (t3 ▸ hb)
      exact ⟨Nat.lt_of_lt_of_le this hu3.next, fun hm => by have := hown b hm; omega⟩
    · rw [q1]; subst hws; simp [joinP]
end Go.Fx.Tryz
/- An instruction's line; text.Write. -/
namespace Go.Fx.Tryz
open Go Go.Fx
set_option linter.unusedSimpArgs false
set_option linter.unusedVariables false

/-- An instruction's words, its line. -/
def wordsP (i : In) : List (List UInt8) := nameP i.op :: ([i.a, i.b, i.c].take (opn i.op).1.toNat).map Lib.itoa ++ (if i.op = 1 then [showP i.v] else [])
def lineP (i : In) : List UInt8 := joinP (wordsP i)
/-- A program's lines. -/
def linesP (L : List In) : List UInt8 := L.flatMap fun i => lineP i ++ [10]
def textP (L : List In) : List UInt8 := if codeErr L = 0 then linesP L else []

theorem afill_s (l : List UInt8) : afill [.string ⟨#[]⟩] [(0, 1, str l)] = some (encS.flat [l]) := by rfl
theorem nameP_len (op : Int) : (nameP op).length ≤ 10 := by
  unfold nameP
  split
  · simp
  · have h : ∀ x ∈ opNames, x.length ≤ 10 := by decide
    cases hx : opNames[op.toNat]? with
    | none => simp
    | some x => exact h x (List.mem_of_getElem? hx)
theorem showP_len {v : Va} (hn : I64 v.n) (hs : v.s.length ≤ 67108864) : (showP v).length ≤ 2 ^ 28 := by
  unfold showP
  split
  · have := itoa_len hn; omega
  · simp only [List.length_cons, hexP_length]; omega

theorem words_loop {xs : List Int} {sv p : Value} (hx : xs.length ≤ 3) (hw : ∀ x ∈ xs, I64 x) : ∀ (d k : Nat) (m : Mem) (v : Value) (ws : List (List UInt8)), k + d = xs.length → (∀ m', Upd (blkOf v) m m' → TSl (encInt .i64) m' sv xs) → (∀ b ∈ blkOf v, b ∉ blkOf sv ∧ 4 ≤ b) → (∀ b ∈ blkOf sv, b < m.next) → Globs m → TAp encS 9 m v ws → ws.length ≤ 1 + k →
    ∀ {Q : Value → Mem → Prop}, (∀ v' m', TAp encS 9 m' v' (ws ++ (xs.drop k).map Lib.itoa) → Upd (blkOf v) m m' → (∀ b ∈ blkOf v', b ∈ blkOf v ∨ m.next ≤ b) → W (P15_1 p v' m') Q) →
    W (P15_0 p v sv (.int .i64 (xs.length : Int)) (.int .i64 (k : Int)) m) Q := by
  intro d
  induction d with
  | zero =>
    intro k m v ws hk hT hb hsb hg h hl Q hK
    obtain rfl : k = xs.length := by omega
    rw [P15_0_eq]
    simp -implicitDefEqProofs only [st0, newVal, reduceIte, Int.lt_irrefl]
    exact hK v m (by simpa using h) (Upd.refl _ _) (fun b hb => .inl hb)
  | succ d ih =>
    intro k m v ws hk hT hb hsb hg h hl Q hK
    have hk' : k < xs.length := by omega
    have hlt : (k : Int) < (xs.length : Int) := by omega
    obtain ⟨q, p1, _, p2⟩ := (hT m (Upd.refl _ _)).index .i64 (List.getElem?_eq_getElem hk')
    have p1 : runIndexS 1 sv (.int .i64 (k : Int)) = some q := p1
    have p2 : runLoad1 q m = some (.int .i64 xs[k]) := p2 _ rfl
    have hdrop : xs.drop k = xs[k] :: xs.drop (k + 1) := List.drop_eq_getElem_cons hk'
    have hx' := hw _ (List.getElem_mem hk')
    rw [hdrop] at hK
    generalize xs[k] = x at p2 hx' hK
    rw [P15_0_eq]
    simp -implicitDefEqProofs only [st0, newVal, reduceIte, hlt, p1, p2, itoa_ok hg hx', afill_s]
    refine app_new (E := encS) [Lib.itoa x] (by decide) h (by simp; omega) fun v' m' g1 g2 g3 => ?_
    simp -implicitDefEqProofs only [st0, newVal, reduceIte, i64_succ (show k < 2 ^ 62 by omega)]
    refine ih (k + 1) m' v' _ (by omega) (fun m2 h2 => hT m2 (g2.then' h2 g3)) (fun b hbv => ?_) (fun b hbs => Nat.lt_of_lt_of_le (hsb b hbs) g2.next) (hg.upd g2 (fun b hh => (hb b hh).2)) g1 (by simp; omega) fun v2 m2 q1 q2 q3 => hK v2 m2 (by simpa using q1) (g2.then' q2 g3) fun b hb2 => ?_
    · rcases g3 b hbv with q | q
      · exact hb b q
      · exact ⟨fun hs => by have := hsb b hs; omega, by have := hg.low; omega⟩
    · rcases q3 b hb2 with q | q
      · exact g3 b q
      · exact .inr (Nat.le_trans g2.next q)

theorem total_append (a b : List (List UInt8)) : total (a ++ b) = total a + total b := by simp [total]
theorem total_map {xs : List Int} (h : ∀ x ∈ xs, I64 x) : total (xs.map Lib.itoa) ≤ xs.length * 21 := by
  induction xs with
  | nil => simp [total]
  | cons x r ih =>
    have h1 := ih (fun y hy => h y (List.mem_cons_of_mem _ hy))
    have h2 := itoa_len (h x (List.mem_cons_self ..))
    simp only [total, List.map_cons, List.sum_cons, List.length_cons] at h1 ⊢
    omega

/-- text.line. -/
theorem line_ok {i : In} (hi : i.Ok) {m : Mem} (hg : Globs m) : W (Call S1 tab 15 [.agg (encIn.cells i).toArray] m) fun r m' => r = str (lineP i) ∧ Upd [] m m' := by
  rw [C15]
  refine W_nw.2 ?_
  rw [cells_agg]
  have f : ∀ k, runFieldAddr k (.pointer (some ⟨m.next, 0, none⟩)) = some (.pointer (some ⟨m.next, 0 + k, none⟩)) := fun k => rfl
  have hlow := hg.low
  generalize hm1 : m.add ⟨.cells (encIn.cells i) 37, false, none⟩ = m1
  have hu1 : Upd [] m m1 := hm1 ▸ Upd.add _ _ _
  have hn1 : m1.next = m.next + 1 := by rw [← hm1]; rfl
  have hg1 : m1.get m.next = some ⟨.cells (encIn.cells i) 37, false, none⟩ := by rw [← hm1]; exact Mem.get_add_self ..
  simp -implicitDefEqProofs only [st0, newVal, reduceIte, f, load_at hg1 (show (encIn.cells i)[0 + 0]? = some (.int .i64 i.op) from rfl)]
  refine W.bind (Operands_ok hi.op m1) fun w m2 ⟨hw, hu2⟩ => ?_
  subst hw
  have keep : ∀ {m'}, Upd [] m1 m' → m'.get m.next = some ⟨.cells (encIn.cells i) 37, false, none⟩ := fun hu => by rw [hu.same _ (by omega) (by simp)]; exact hg1
  have hg2 := keep hu2
  obtain ⟨n, hn, hn3⟩ := opn_nat i.op
  have e0 : runExtract 0 (.tuple #[.int .i64 (opn i.op).1, .bool (opn i.op).2]) = some (.int .i64 (opn i.op).1) := rfl
  have e1 : runExtract 1 (.tuple #[.int .i64 (opn i.op).1, .bool (opn i.op).2]) = some (.bool (opn i.op).2) := rfl
  have hntn : (opn i.op).1.toNat = n := by rw [hn]; simp
  rw [hn] at e0 e1 ⊢
  simp -implicitDefEqProofs only [st0, newVal, reduceIte, e0, e1, f, load_at hg2 (show (encIn.cells i)[0 + 0]? = some (.int .i64 i.op) from rfl)]
  refine W.bind (name_ok i.op m2) fun w m3 ⟨hw, hu3⟩ => ?_
  subst hw
  simp -implicitDefEqProofs only [st0, newVal, reduceIte, afill_s]
  have hu23 := hu2.then0 hu3
  have hT4 := TAp.fresh (E := encS) (e := 9) m3 [nameP i.op]
  have hu4 : Upd [] m1 (m3.add ⟨.cells (encS.flat [nameP i.op]) 9, false, none⟩) := hu23.then0 (Upd.add _ _ _)
  have hn4 : (m3.add ⟨.cells (encS.flat [nameP i.op]) 9, false, none⟩).next = m3.next + 1 := rfl
  generalize m3.add ⟨.cells (encS.flat [nameP i.op]) 9, false, none⟩ = m4 at hT4 hu4 hn4
  have hg4 := keep hu4
  have ef : afill [.int .i64 0, .int .i64 0, .int .i64 0] [(0, 1, .int .i64 i.a), (1, 1, .int .i64 i.b), (2, 1, .int .i64 i.c)] = some ((encInt .i64).flat [i.a, i.b, i.c]) := by rfl
  simp -implicitDefEqProofs only [st0, newVal, reduceIte, f, load_at hg4 (show (encIn.cells i)[0 + 1]? = some (.int .i64 i.a) from rfl), load_at hg4 (show (encIn.cells i)[0 + 2]? = some (.int .i64 i.b) from rfl), load_at hg4 (show (encIn.cells i)[0 + 3]? = some (.int .i64 i.c) from rfl), ef]
  have hT5 := (TAp.fresh (E := encInt .i64) (e := 3) m4 [i.a, i.b, i.c]).tsl
  have hu5 : Upd [] m4 (m4.add ⟨.cells ((encInt .i64).flat [i.a, i.b, i.c]) 3, false, none⟩) := Upd.add _ _ _
  have hn5 : (m4.add ⟨.cells ((encInt .i64).flat [i.a, i.b, i.c]) 3, false, none⟩).next = m4.next + 1 := rfl
  generalize m4.add ⟨.cells ((encInt .i64).flat [i.a, i.b, i.c]) 3, false, none⟩ = m5 at hT5 hu5 hn5
  have h5 := hT4.upd0 hu5
  obtain ⟨sv, s1, s2, s3⟩ := hT5.upto' (k := n) (by simpa using hn3)
  have s1 : ∀ m', runSliceS 1 (.slice (some ⟨m4.next, 0, none⟩) 3 3) none (some (.int .i64 (n : Int))) m' = some sv := s1
  have hsb : ∀ b ∈ blkOf sv, b = m4.next := fun b hb => by rw [s3] at hb; simpa [blkOf] using hb
  have hxs : ∀ x ∈ [i.a, i.b, i.c].take n, I64 x := fun x hx => by
    have := List.mem_of_mem_take hx
    simp only [List.mem_cons, List.not_mem_nil, or_false] at this
    rcases this with rfl | rfl | rfl
    · exact hi.a
    · exact hi.b
    · exact hi.c
  simp -implicitDefEqProofs only [st0, newVal, reduceIte, s1, s2.len]
  have hnx : m1.next ≤ m3.next := hu23.next
  have hu15 := hu4.then0 hu5
  have hbv : ∀ b ∈ blkOf (.slice (some ⟨m3.next, 0, none⟩) 1 1), b = m3.next := fun b hb => by simpa [blkOf] using hb
  refine words_loop (xs := [i.a, i.b, i.c].take n) (by simp; omega) hxs ([i.a, i.b, i.c].take n).length 0 m5 (.slice (some ⟨m3.next, 0, none⟩) 1 1) [nameP i.op] (by omega) (fun m' h' => s2.upd h' (fun b hb => ?_)) (fun b hb => ?_) (fun b hb => ?_) ((hg.upd0 hu1).upd0 hu15) h5 (by simp) fun v6 m6 q1 q2 q3 => ?_
  · have := hsb b hb; exact ⟨by omega, fun hm => by have := hbv b hm; omega⟩
  · have := hbv b hb; exact ⟨fun hm => by have := hsb b hm; omega, by omega⟩
  · have := hsb b hb; omega
  · have hu16 : Upd [] m1 m6 := hu15.then' q2 (fun b hb => .inr (by have := hbv b hb; omega))
    have hg6 := keep hu16
    have htot : total (nameP i.op :: ([i.a, i.b, i.c].take n).map Lib.itoa) ≤ 100 := by
      have h1 := nameP_len i.op
      have h2 := total_map hxs
      have h3 : ([i.a, i.b, i.c].take n).length ≤ 3 := by simp; omega
      simp only [total, List.map_cons, List.sum_cons] at h2 ⊢
      omega
    have hcnt : (nameP i.op :: ([i.a, i.b, i.c].take n).map Lib.itoa).length ≤ 4 := by simp; omega
    have hw0 : [nameP i.op] ++ (([i.a, i.b, i.c].take n).drop 0).map Lib.itoa = nameP i.op :: ([i.a, i.b, i.c].take n).map Lib.itoa := by simp
    rw [hw0] at q1
    have hlow6 : ∀ b ∈ blkOf v6, m1.next ≤ b := fun b hb => by
      rcases q3 b hb with q | q
      · have := hbv b q; omega
      · exact Nat.le_trans hu15.next q
    rw [P15_1_eq]
    by_cases hop : i.op = 1
    · simp -implicitDefEqProofs only [st0, newVal, reduceIte, f, load_at hg6 (show (encIn.cells i)[0 + 0]? = some (.int .i64 i.op) from rfl), hop]
      have hval : runLoadN 3 (.pointer (some ⟨m.next, 0 + 4, none⟩)) m6 = some (.agg (encVa.cells i.v).toArray) := load_part hg6 (by simp [encIn])
      simp -implicitDefEqProofs only [st0, newVal, reduceIte, hval]
      refine W.bind (show_ok (v := i.v) hi.n (Nat.le_trans hi.s (by decide)) ((hg.upd0 hu1).upd0 hu16)) fun w m7 ⟨hw, hu7⟩ => ?_
      subst hw
      simp -implicitDefEqProofs only [st0, newVal, reduceIte, afill_s]
      refine app_new (E := encS) [showP i.v] (by decide) (q1.upd0 hu7) (by simp only [List.length_cons, List.length_nil] at hcnt ⊢; omega) fun v8 m8 g1 g2 g3 => ?_
      have hu8 : Upd [] m1 m8 := (hu16.then0 hu7).then' g2 (fun b hb => .inr (hlow6 b hb))
      refine W.bind (join_ok g1 (by simp only [List.length_append, List.length_cons, List.length_nil] at hcnt ⊢; omega) ?_) fun r m9 ⟨r1, r2⟩ => ?_
      · rw [total_append]
        have : total [showP i.v] ≤ 2 ^ 28 := by
          have := showP_len (v := i.v) hi.n hi.s
          simpa [total] using this
        omega
      · refine W_some.2 ⟨?_, (hu1.then0 hu8).then0 r2⟩
        rw [r1]
        unfold lineP wordsP
        rw [hntn, if_pos hop]
    · simp -implicitDefEqProofs only [st0, newVal, reduceIte, f, load_at hg6 (show (encIn.cells i)[0 + 0]? = some (.int .i64 i.op) from rfl), hop]
      refine W.bind (join_ok q1 (by omega) (by omega)) fun r m9 ⟨r1, r2⟩ => ?_
      refine W_some.2 ⟨?_, (hu1.then0 hu16).then0 r2⟩
      rw [r1]
      unfold lineP wordsP
      rw [hntn, if_neg hop, List.append_nil]

theorem lineP_len {i : In} (hi : i.Ok) : (lineP i).length ≤ 2 ^ 29 := by
  have h1 := nameP_len i.op
  have h2 : ∀ x ∈ [i.a, i.b, i.c].take (opn i.op).1.toNat, I64 x := fun x hx => by
    have := List.mem_of_mem_take hx
    simp only [List.mem_cons, List.not_mem_nil, or_false] at this
    rcases this with rfl | rfl | rfl
    · exact hi.a
    · exact hi.b
    · exact hi.c
  have h3 := total_map h2
  have h4 : ([i.a, i.b, i.c].take (opn i.op).1.toNat).length ≤ 3 := by simp; omega
  have h5 := showP_len (v := i.v) hi.n hi.s
  unfold lineP wordsP
  simp only [List.cons_append, joinP, List.length_append, sepP_len, total_append, List.length_map]
  have h6 : total (if i.op = 1 then [showP i.v] else []) ≤ 2 ^ 28 ∧ (if i.op = 1 then [showP i.v] else []).length ≤ 1 := by
    split
    · simpa [total] using h5
    · simp [total]
  omega

theorem write_loop {L : List In} {sv : Value} {bp : Nat} (hL : L.length ≤ 64) (hok : ∀ x ∈ L, x.Ok) : ∀ (d i : Nat) (m : Mem) (v : Value) (l : List UInt8), i + d = L.length → (∀ m', Upd (bp :: blkOf v) m m' → TSl encIn m' sv L) → Globs m → Bld m bp v l → (l ≠ [] ∨ v = .slice none 0 0) → l.length ≤ i * 2 ^ 30 → (∀ b ∈ bp :: blkOf v, 4 ≤ b) →
    W (P6_0 (.pointer (some ⟨bp, 0, none⟩)) sv (.int .i64 (L.length : Int)) (.int .i64 (i : Int)) m) fun r m' => r = .tuple #[str (l ++ linesP (L.drop i)), .int .i64 0] ∧ Upd (bp :: blkOf v) m m' := by
  intro d
  induction d with
  | zero =>
    intro i m v l hd hT hg h hne hl hb4
    obtain rfl : i = L.length := by omega
    rw [P6_0_eq]
    simp -implicitDefEqProofs only [st0, newVal, reduceIte, Int.lt_irrefl]
    refine W.bind (bstr_ok h (by omega) hne) fun r m' ⟨h1, h2⟩ => ?_
    exact W_some.2 ⟨by simp only [h1, linesP, List.drop_length, List.flatMap_nil, List.append_nil], h2⟩
  | succ d ih =>
    intro i m v l hd hT hg h hne hl hb4
    have hi : i < L.length := by omega
    have hlt : (i : Int) < (L.length : Int) := by omega
    have hx : L[i]? = some L[i] := List.getElem?_eq_getElem hi
    have hxs := hok _ (List.getElem_mem hi)
    have hdrop : L.drop i = L[i] :: L.drop (i + 1) := List.drop_eq_getElem_cons hi
    rw [hdrop]
    generalize L[i] = x at hx hxs
    obtain ⟨b, off, p1, p2⟩ := (hT m (Upd.refl _ _)).at .i64 hx
    have p1 : runIndexS 7 sv (.int .i64 (i : Int)) = _ := p1
    have p2 : runLoadN 7 (.pointer (some ⟨b, off, none⟩)) m = _ := (p2 m (hT m (Upd.refl _ _))).1
    rw [P6_0_eq]
    simp -implicitDefEqProofs only [st0, newVal, reduceIte, hlt, p1, p2]
    refine W.bindO (store_whole (n := 7) (Mem.get_add_self _ _) rfl rfl rfl) ?_
    rw [cells_agg]
    generalize hm6 : (Mem.put _ m.next ⟨.cells (encIn.cells x) 37, false, none⟩) = m6
    have u6 : Upd [] m m6 := hm6 ▸ (Upd.add [] m _).put' _ (.inr (Nat.le_refl _))
    have g6 : m6.get m.next = some ⟨.cells (encIn.cells x) 37, false, none⟩ := by rw [← hm6, Mem.get_put_self]
    simp -implicitDefEqProofs only [st0, newVal, reduceIte, load_whole (n := 7) g6 rfl]
    refine W.bind (line_ok hxs (hg.upd0 u6)) fun w m7 ⟨hw, u7⟩ => ?_
    subst hw
    have u17 := u6.then0 u7
    have hll := lineP_len hxs
    simp -implicitDefEqProofs only [st0, newVal, reduceIte]
    refine W.bind (wstr_ok (lineP x) (h.keep0 u17) (by omega)) fun r8 m8 ⟨v8, b8, s8⟩ => ?_
    simp -implicitDefEqProofs only [st0, newVal, reduceIte]
    refine W.bind (wbyte_ok 10 b8 (by simp only [List.length_append]; omega)) fun r9 m9 ⟨_, v9, b9, s9⟩ => ?_
    simp -implicitDefEqProofs only [st0, newVal, reduceIte, i64_succ (show i < 2 ^ 62 by omega)]
    have s89 := s8.trans s9
    have hu0 : Upd (bp :: blkOf v) m m9 := u17.nil'.trans s89.upd
    have hown : ∀ b ∈ bp :: blkOf v9, b ∈ bp :: blkOf v ∨ m.next ≤ b := fun b hb => by
      rcases List.mem_cons.1 hb with rfl | hb
      · exact .inl (List.mem_cons_self ..)
      · rcases s89.own b hb with q | q
        · exact .inl (List.mem_cons_of_mem _ q)
        · exact .inr (Nat.le_trans u17.next q)
    refine (ih (i + 1) m9 v9 _ (by omega) (fun m2 h2 => hT m2 (hu0.then' h2 hown)) (hg.upd hu0 hb4) b9 (.inl (by simp)) (by simp only [List.length_append, List.length_cons, List.length_nil]; omega) (fun c hc => ?_)).mono fun r m2 ⟨q1, q2⟩ => ⟨by rw [q1]; simp [linesP], hu0.then' q2 hown⟩
    rcases hown c hc with q | q
    · exact hb4 c q
    · have := hg.low; omega

/-- text.Write. -/
theorem write_ok {L : List In} {sv : Value} {m : Mem} (hok : ∀ x ∈ L, x.Ok) (hlen : L.length ≤ 2 ^ 40) (hT : TSl encIn m sv L) (hb : ∀ b ∈ blkOf sv, b < m.next) (hg : Globs m) :
    W (Call S1 tab 6 [sv] m) fun r m' => r = .tuple #[str (textP L), .int .i64 (codeErr L)] ∧ Upd [] m m' := by
  rw [C6]
  refine W.bind (code_ok hok hlen hT hb hg) fun r m1 ⟨⟨s, hr⟩, hu1⟩ => ?_
  subst hr
  have e0 : runExtract 0 (.tuple #[str s, .int .i64 (codeErr L)]) = some (str s) := rfl
  have e1 : runExtract 1 (.tuple #[str s, .int .i64 (codeErr L)]) = some (.int .i64 (codeErr L)) := rfl
  unfold textP
  by_cases h0 : codeErr L = 0
  · have hL : L.length ≤ 64 := by
      unfold codeErr at h0
      split at h0
      · cases h0
      · omega
    rw [h0] at e0 e1 ⊢
    simp -implicitDefEqProofs only [st0, newVal, reduceIte, e0, e1]
    have hb2 := Bld.new m1
    have hu2 : Upd [] m1 (m1.add ⟨.cells [.pointer none, .slice none 0 0] 41, false, none⟩) := Upd.add _ _ _
    generalize m1.add ⟨.cells [.pointer none, .slice none 0 0] 41, false, none⟩ = m2 at hb2 hu2
    have hu12 := hu1.then0 hu2
    have hg2 := hg.upd0 hu12
    simp -implicitDefEqProofs only [st0, newVal, reduceIte, hT.len]
    have hnx := hu1.next
    refine (write_loop hL hok L.length 0 m2 (.slice none 0 0) [] (by omega) (fun m' h' => hT.upd (hu12.then' (fp := []) h' (fun b hb => ?_)) (fun b hh => ⟨hb b hh, by simp⟩)) hg2 hb2 (.inr rfl) (by simp) (fun b hb => ?_)).mono fun r m3 ⟨q1, q2⟩ => ⟨by rw [q1]; simp, hu12.then' q2 (fun b hb => ?_)⟩
    · simp [blkOf] at hb; exact .inr (by omega)
    · simp [blkOf] at hb; have := hg.low; omega
    · simp [blkOf] at hb; exact .inr (by omega)
  · simp -implicitDefEqProofs only [st0, newVal, reduceIte, e0, e1, h0]
    exact ⟨by trivial, hu1⟩
end Go.Fx.Tryz
